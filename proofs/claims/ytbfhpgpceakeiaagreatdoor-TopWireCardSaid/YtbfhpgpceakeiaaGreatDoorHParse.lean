/- Texts of this claim in one: HParse. What each proves, and on what conditions, its own words say. -/
import Derived.Test.YtbfhpgpceakeiaaGreatDoorHWire
import Derived.Test.YtbfhpgpceakeiaaGreatDoorHBits
namespace Wi
open Kin

def rdK (l : List UInt8) : Nat → Nat
  | 0 => 0
  | i + 1 => rdK l i + Gol.gK (Go.Proofs.YtbfhpgpceakeiaaGreatDoor.bitsOf l (rdK l i))
def rdV (l : List UInt8) (i : Nat) : Nat := Gol.gV (Go.Proofs.YtbfhpgpceakeiaaGreatDoor.bitsOf l (rdK l i))
def rdE (l : List UInt8) (i : Nat) : Int := Gol.gE (Go.Proofs.YtbfhpgpceakeiaaGreatDoor.bitsOf l (rdK l i))
def of4 (l : List UInt8) : Nat := (((l.getD 0 0).toNat * 256 + (l.getD 1 0).toNat) * 256 + (l.getD 2 0).toNat) * 256 + (l.getD 3 0).toNat
/-- what is ahead of the sum, and the sum that is told -/
def ahead (b : List UInt8) : List UInt8 := b.take (b.length - 4)
def told (b : List UInt8) : Nat := of4 (b.drop (b.length - 4))
def numsOk (l : List UInt8) (m : Nat) : Bool := (List.range m).all fun i => rdE l i == 0
/-- are m numbers, the first of a kind, and a tail as long as the last one says? -/
def paOk (l : List UInt8) (kind m : Nat) : Bool := numsOk l m && rdV l 0 == kind && Go.Proofs.YtbfhpgpceakeiaaGreatDoor.Bit.restB (Bit.row l) (rdK l m) && ((l.drop ((rdK l m + 7) / 8)).length == rdV l (m - 1))
def tail (l : List UInt8) (m : Nat) : List UInt8 := l.drop ((rdK l m + 7) / 8)
end Wi
namespace Go.Proofs.YtbfhpgpceakeiaaGreatDoor.C20
open Go.RowKit Kin

theorem or_add (a k b : Nat) (hb : b < 2 ^ k) : (a * 2 ^ k) ||| b = a * 2 ^ k + b := by
  rw [Nat.mul_comm, Nat.two_pow_add_eq_or_of_lt hb]
theorem or4 (a b c d : Nat) (ha : a < 2 ^ 8) (hb : b < 2 ^ 8) (hc : c < 2 ^ 8) (hd : d < 2 ^ 8) :
    bits .or .u32 (bits .or .u32 (bits .or .u32 ((a : Int) * 16777216) ((b : Int) * 65536)) ((c : Int) * 256)) (d : Int) = ((((a * 256 + b) * 256 + c) * 256 + d : Nat) : Int) := by
  have e1 : (a : Int) * 16777216 = ((a * 16777216 : Nat) : Int) := by omega
  have e2 : (b : Int) * 65536 = ((b * 65536 : Nat) : Int) := by omega
  have e3 : (c : Int) * 256 = ((c * 256 : Nat) : Int) := by omega
  have o1 := or_add a 24 (b * 65536) (by omega)
  have o2 := or_add (a * 256 + b) 16 (c * 256) (by omega)
  have o3 := or_add ((a * 256 + b) * 256 + c) 8 d (by omega)
  simp only [Nat.reducePow] at o1 o2 o3
  rw [e1, e2, e3, u32_or_nat _ _ (by omega) (by omega), o1, show a * 16777216 + b * 65536 = (a * 256 + b) * 65536 by omega, u32_or_nat _ _ (by omega) (by omega), o2, show (a * 256 + b) * 65536 + c * 256 = ((a * 256 + b) * 256 + c) * 256 by omega, u32_or_nat _ _ (by omega) (by omega), o3]

def addrs (ps : List (Nat × Nat)) : List Addr := ps.map fun p => ⟨p.1, p.2, none⟩
theorem ptr_new (w : World) (p : Addr) (e : TypeId) (g : Nat) (hg : w.heap.size = g) : Recs (w.alloc (.cells #[.pointer (some p)] e)) (g + 1) 1 (some ⟨g, 0, none⟩) (ptrRows [p]) := by
  subst hg
  exact Recs.new w #[.pointer (some p)] e (0, 0) 1 [.pointer (some p)] rfl rfl
theorem recs_more {w : World} {B B' k : Nat} {A : Option Addr} {xs : List (List Value)} (h : Recs w B k A xs) (hB : B ≤ B') : Recs w B' k A xs := fun hl => by
  obtain ⟨b, off, e, hb, hc⟩ := h hl
  exact ⟨b, off, e, by omega, hc⟩
/-- six new blocks: two numbers, two rows of a pointer each, a row of three slices -/
theorem par_six (w : World) (Ap : Option Addr) (np cp : Nat) (ps : List (Nat × Nat)) (B : Nat) (hB : B ≤ w.heap.size) (hP : Recs w B 1 Ap (ptrRows (addrs ps))) :
    let V6 := ((((w.alloc (.cells #[.int .i64 0] 3)).alloc (.cells #[.int .i64 0] 3)).alloc (.cells #[.pointer (some ⟨w.heap.size, 0, none⟩)] 92)).alloc (.cells #[.pointer (some ⟨w.heap.size + 1, 0, none⟩)] 92)).alloc (.cells #[.slice (some ⟨w.heap.size + 1 + 1, 0, none⟩) 1 1, .slice Ap np cp, .slice (some ⟨w.heap.size + 1 + 1 + 1, 0, none⟩) 1 1] 137)
    Blk V6 w.heap.size 3 #[.int .i64 0] ∧ Blk V6 (w.heap.size + 1) 3 #[.int .i64 0] ∧ Recs V6 V6.heap.size 1 (some ⟨w.heap.size + 1 + 1, 0, none⟩) (ptrRows [⟨w.heap.size, 0, none⟩]) ∧ Recs V6 V6.heap.size 1 Ap (ptrRows (addrs ps)) ∧ Recs V6 V6.heap.size 1 (some ⟨w.heap.size + 1 + 1 + 1, 0, none⟩) (ptrRows [⟨w.heap.size + 1, 0, none⟩]) ∧
    Blk V6 (w.heap.size + 1 + 1 + 1 + 1) 137 #[.slice (some ⟨w.heap.size + 1 + 1, 0, none⟩) 1 1, .slice Ap np cp, .slice (some ⟨w.heap.size + 1 + 1 + 1, 0, none⟩) 1 1] ∧ Below w.heap.size w V6 := by
  intro V6
  have s1 : (w.alloc (.cells #[.int .i64 0] 3)).heap.size = w.heap.size + 1 := World.size_alloc _ _
  have s2 : ((w.alloc (.cells #[.int .i64 0] 3)).alloc (.cells #[.int .i64 0] 3)).heap.size = w.heap.size + 1 + 1 := by rw [World.size_alloc, s1]
  have s3 : (((w.alloc (.cells #[.int .i64 0] 3)).alloc (.cells #[.int .i64 0] 3)).alloc (.cells #[.pointer (some ⟨w.heap.size, 0, none⟩)] 92)).heap.size = w.heap.size + 1 + 1 + 1 := by rw [World.size_alloc, s2]
  have s4 : ((((w.alloc (.cells #[.int .i64 0] 3)).alloc (.cells #[.int .i64 0] 3)).alloc (.cells #[.pointer (some ⟨w.heap.size, 0, none⟩)] 92)).alloc (.cells #[.pointer (some ⟨w.heap.size + 1, 0, none⟩)] 92)).heap.size = w.heap.size + 1 + 1 + 1 + 1 := by rw [World.size_alloc, s3]
  have s5 : V6.heap.size = w.heap.size + 1 + 1 + 1 + 1 + 1 := by show (World.alloc _ _).heap.size = _; rw [World.size_alloc, s4]
  have n2 := Blk.new (w.alloc (.cells #[.int .i64 0] 3)) 3 #[.int .i64 0]
  rw [s1] at n2
  have n6 := Blk.new ((((w.alloc (.cells #[.int .i64 0] 3)).alloc (.cells #[.int .i64 0] 3)).alloc (.cells #[.pointer (some ⟨w.heap.size, 0, none⟩)] 92)).alloc (.cells #[.pointer (some ⟨w.heap.size + 1, 0, none⟩)] 92)) 137 #[.slice (some ⟨w.heap.size + 1 + 1, 0, none⟩) 1 1, .slice Ap np cp, .slice (some ⟨w.heap.size + 1 + 1 + 1, 0, none⟩) 1 1]
  rw [s4] at n6
  have bA : Below w.heap.size w V6 := (((((Below.refl _ _).alloc (Nat.le_refl _) _).alloc (by rw [s1]; omega) _).alloc (by rw [s2]; omega) _).alloc (by rw [s3]; omega) _).alloc (by rw [s4]; omega) _
  have r1 := ptr_new ((w.alloc (.cells #[.int .i64 0] 3)).alloc (.cells #[.int .i64 0] 3)) ⟨w.heap.size, 0, none⟩ 92 _ s2
  have r3 := ptr_new (((w.alloc (.cells #[.int .i64 0] 3)).alloc (.cells #[.int .i64 0] 3)).alloc (.cells #[.pointer (some ⟨w.heap.size, 0, none⟩)] 92)) ⟨w.heap.size + 1, 0, none⟩ 92 _ s3
  refine ⟨((((Blk.new w 3 #[.int .i64 0]).alloc _).alloc _).alloc _).alloc _, ((n2.alloc _).alloc _).alloc _, ?_, recs_more (hP.below (bA.mono hB)) (by omega), ?_, n6, bA⟩
  · exact recs_more (r1.below (((Below.refl _ _).alloc (by rw [s3]; omega) _).alloc (by rw [s4]; omega) _)) (by omega)
  · exact recs_more (r3.below ((Below.refl _ _).alloc (by rw [s4]; omega) _)) (by omega)

/-- the numbers' cells of parse behind k stores and kr reads -/
def PSt (B : Nat) (S : Nat → World → Prop) (l : List UInt8) (f1 f2 gr rr : Nat) (A : Option Addr) (c np : Nat) (L : List Addr) (k kr : Nat) (W : World) : Prop :=
  OwnR W 92 1 A (1 + np + 1) c (ptrRows L) ∧ Blk W f1 3 #[.int .i64 (if 0 < k then (Wi.rdV l 0 : Int) else 0)] ∧ Blk W f2 3 #[.int .i64 (if np + 1 < k then (Wi.rdV l (np + 1) : Int) else 0)] ∧ ReaderIs W gr rr l (Wi.rdK l kr) ∧ S (min (k - 1) np) W ∧ B ≤ W.heap.size
theorem PSt.read {B : Nat} {S : Nat → World → Prop} {l : List UInt8} {f1 f2 gr rr c np k kr kr' : Nat} {A : Option Addr} {L : List Addr} {W W' : World} (h : PSt B S l f1 f2 gr rr A c np L k kr W) (hg : Chg (One gr) W W') (hr : ReaderIs W' gr rr l (Wi.rdK l kr')) (hB : B ≤ gr) (hSb : ∀ k W W', S k W → Chg (fun q => B ≤ q) W W' → S k W') : PSt B S l f1 f2 gr rr A c np L k kr' W' := by
  obtain ⟨h1, h2, h3, h4, h5, h6⟩ := h
  have n1 : ¬ One gr f1 := fun e => (h2.ne_ h4.1 (by decide)) e
  have n2 : ¬ One gr f2 := fun e => (h3.ne_ h4.1 (by decide)) e
  exact ⟨hg.ownR h1 (fun q hq e => h1.ne_blk h4.1 (by decide) (by rw [hq, show q = gr from e])), hg.blk h2 n1, hg.blk h3 n2, hr, hSb _ _ _ h5 (hg.mono (fun i _ e => by have : i = gr := e; omega)), Nat.le_trans h6 hg.size⟩
theorem chg_one (W : World) (q o : Nat) (v : Value) : Chg (One q) W (W.setCell ⟨q, o, none⟩ v) := (Chg.refl (One q) W).setCell (p := ⟨q, o, none⟩) (.inl rfl) v
theorem PSt.step {B : Nat} {S : Nat → World → Prop} {l : List UInt8} {f1 f2 gr rr c np k kr : Nat} {A : Option Addr} {ps : List (Nat × Nat)} {W : World} (h : PSt B S l f1 f2 gr rr A c np ([⟨f1, 0, none⟩] ++ addrs ps ++ [⟨f2, 0, none⟩]) k kr W)
    (hnp : np = ps.length) (f12 : f1 ≠ f2) (z1 : B ≤ f1) (z2 : B ≤ f2) (zg : B ≤ gr) (zr : B ≤ rr) (zA : ∀ q, blkOf A = some q → B ≤ q) (hlt : ∀ k (hk : k < ps.length), (ps[k]).1 < B) (hSb : ∀ k W W', S k W → Chg (fun q => B ≤ q) W W' → S k W')
    (hSs : ∀ k (hk : k < ps.length) W, S k W → (∃ x : Int, W.cell? ⟨(ps[k]).1, (ps[k]).2, none⟩ = some (.int .i64 x)) ∧ W.frozen? ⟨(ps[k]).1, (ps[k]).2, none⟩ = false ∧ S (k + 1) (W.setCell ⟨(ps[k]).1, (ps[k]).2, none⟩ (.int .i64 (Wi.rdV l (k + 1) : Int))))
    {q o : Nat} (hp : ([⟨f1, 0, none⟩] ++ addrs ps ++ [⟨f2, 0, none⟩] : List Addr)[k]? = some ⟨q, o, none⟩) :
    (∃ x : Int, W.cell? ⟨q, o, none⟩ = some (.int .i64 x)) ∧ W.frozen? ⟨q, o, none⟩ = false ∧ PSt B S l f1 f2 gr rr A c np ([⟨f1, 0, none⟩] ++ addrs ps ++ [⟨f2, 0, none⟩]) (k + 1) kr (W.setCell ⟨q, o, none⟩ (.int .i64 (Wi.rdV l k : Int))) := by
  obtain ⟨h1, h2, h3, h4, h5, h6⟩ := h
  have hcg := chg_one W q o (.int .i64 (Wi.rdV l k : Int))
  have la : (addrs ps).length = np := by rw [addrs, List.length_map, hnp]
  have h6' := Nat.le_trans h6 hcg.size
  have nr := h4.ne
  rcases Nat.eq_zero_or_pos k with rfl | hk0
  · simp at hp
    obtain ⟨rfl, rfl⟩ := hp
    have ng : ¬ One f1 gr := fun e => (h2.ne_ h4.1 (by decide)) e.symm
    have nrr : ¬ One f1 rr := fun e => own_blk_ne h4.2.1.2 h2 (by decide) (by rw [ownBlock_slice]; exact congrArg some e)
    have n2 : ¬ One f1 f2 := fun e => f12 e.symm
    refine ⟨⟨_, h2.cell 0⟩, h2.frozen 0, hcg.ownR h1 (fun q hq e => h1.ne_blk h2 (by decide) (by rw [hq, show q = f1 from e])), ?_, ?_, h4.keep hcg ng nrr, hSb _ _ _ h5 (hcg.mono (fun i _ e => by have : i = f1 := e; omega)), h6'⟩
    · have := h2.set_ 0 (.int .i64 (Wi.rdV l 0 : Int))
      rw [if_pos (by omega)]
      exact this
    · have := hcg.blk h3 n2
      rw [if_neg (by omega)] at this ⊢
      exact this
  · by_cases hk : k ≤ np
    · obtain ⟨j, rfl⟩ : ∃ j, k = j + 1 := ⟨k - 1, by omega⟩
      have hj : j < ps.length := by omega
      have e1 : ([⟨f1, 0, none⟩] ++ addrs ps ++ [⟨f2, 0, none⟩] : List Addr)[j + 1]? = some ⟨(ps[j]).1, (ps[j]).2, none⟩ := by
        rw [List.append_assoc, List.singleton_append, List.getElem?_cons_succ, List.getElem?_append_left (by omega), addrs, List.getElem?_map, List.getElem?_eq_getElem hj]
        exact rfl
      rw [e1] at hp
      injection hp with hp
      injection hp with hq ho
      subst hq ho
      have hl := hlt j hj
      have e2 : min (j + 1 - 1) np = j := by omega
      have e3 : min (j + 1 + 1 - 1) np = j + 1 := by omega
      rw [e2] at h5
      obtain ⟨s1, s2, s3⟩ := hSs j hj W h5
      refine ⟨s1, s2, hcg.ownR h1 (fun q hq e => by have : q = _ := e; have := zA q hq; omega), ?_, ?_, h4.keep hcg (fun e => by have : gr = _ := e; omega) (fun e => by have : rr = _ := e; omega), by rw [e3]; exact s3, h6'⟩
      · have := hcg.blk h2 (fun e => by have : f1 = _ := e; omega)
        rw [if_pos (by omega)] at this ⊢
        exact this
      · have := hcg.blk h3 (fun e => by have : f2 = _ := e; omega)
        rw [if_neg (by omega)] at this ⊢
        exact this
    · have hkl : k < ([⟨f1, 0, none⟩] ++ addrs ps ++ [⟨f2, 0, none⟩] : List Addr).length := (List.getElem?_eq_some_iff.1 hp).1
      have hkk : k = np + 1 := by
        rw [List.length_append, List.length_append, la] at hkl
        simp at hkl
        omega
      subst hkk
      have e1 : ([⟨f1, 0, none⟩] ++ addrs ps ++ [⟨f2, 0, none⟩] : List Addr)[np + 1]? = some ⟨f2, 0, none⟩ := by
        rw [List.append_assoc, List.singleton_append, List.getElem?_cons_succ, List.getElem?_append_right (by omega), la, Nat.sub_self]
        exact rfl
      rw [e1] at hp
      injection hp with hp
      injection hp with hq ho
      subst hq ho
      have ng : ¬ One f2 gr := fun e => (h3.ne_ h4.1 (by decide)) e.symm
      have nrr : ¬ One f2 rr := fun e => own_blk_ne h4.2.1.2 h3 (by decide) (by rw [ownBlock_slice]; exact congrArg some e)
      have e2 : min (np + 1 - 1) np = np := by omega
      have e3 : min (np + 1 + 1 - 1) np = np := by omega
      rw [e2] at h5
      refine ⟨⟨_, h3.cell 0⟩, h3.frozen 0, hcg.ownR h1 (fun q hq e => h1.ne_blk h3 (by decide) (by rw [hq, show q = f2 from e])), ?_, ?_, h4.keep hcg ng nrr, by rw [e3]; exact hSb _ _ _ h5 (hcg.mono (fun i _ e => by have : i = f2 := e; omega)), h6'⟩
      · have := hcg.blk h2 (fun e => f12 e)
        rw [if_pos (by omega)] at this ⊢
        exact this
      · have := h3.set_ 0 (.int .i64 (Wi.rdV l (np + 1) : Int))
        rw [if_pos (by omega)]
        exact this
theorem numsOk_zero (l : List UInt8) : Wi.numsOk l 0 = true := rfl
theorem numsOk_succ (l : List UInt8) (k : Nat) (h : Wi.numsOk l k = true) (h0 : Wi.rdE l k = 0) : Wi.numsOk l (k + 1) = true := by
  unfold Wi.numsOk at *
  rw [List.range_succ, List.all_append, h]
  simp [h0]
theorem numsOk_bad (l : List UInt8) (k m : Nat) (hk : k < m) (h0 : Wi.rdE l k ≠ 0) : Wi.numsOk l m = false := by
  unfold Wi.numsOk
  rw [List.all_eq_false]
  exact ⟨k, List.mem_range.2 hk, by simp [h0]⟩

set_option maxRecDepth 100000 in
set_option maxHeartbeats 1000000 in
theorem clone_calls (A : Option Addr) (n c : Nat) (l : List UInt8) (w : World) (hn : n = l.length) (hm : n ≤ 140737488355328) {B : Nat} (hA0 : Byt w B A l) :
    Calls Tryz.prog 45 #[.slice A n c] w (RetBytes w l) := by
  have HN := hide hn
  have hA := hA0.here
  clear hn hA0
  have heq : ∀ w', Sem.run Tryz.prog (binOp .eql 23 (.slice A n c) (.slice none 0 0)) w' = .ok (.bool A.isNone) w' := fun w' => by
    have := run_equal_slice_nil (P := Tryz.prog) w' 23 5 A n c Tryz.underlying23
    simp [binOp, this]
  rcases A with _ | ad
  · have hl : l = [] := by
      rcases l with _ | ⟨b, l⟩
      · rfl
      · obtain ⟨_, _, h, _⟩ := hA (by simp)
        cases h
    subst hl
    go_enter Tryz.func45, Tryz.ntmps45
    go_wp2
    go_ret
    exact ⟨_, _, _, rfl, Own8.nil _ _, by simp [blkOf], Below.refl _ _⟩
  · go_enter Tryz.func45, Tryz.ntmps45
    go_wp2_with (at_builtin; refine wpList_append8 (by rfl) (.tmp 5) (.tmp 6) 23 5 (by rfl) bytesT _ _ _ [] (by rfl) (Own8.new w #[] 5 0 [] rfl rfl (by decide)) _ _ _ _ l (by rfl) (hA.below ((Below.refl _ _).alloc (Nat.le_refl _) _)) HN.out (by omega) ?_; intro A1 c1 w1 own1 grow1 at1; simp only [Nat.zero_add, List.nil_append] at own1)
    have b1 : Below w.heap.size w w1 := ((Below.refl w.heap.size w).alloc (Nat.le_refl _) _).grown grow1 (by simp) (by intro g hg; simp [blkOf] at hg; omega)
    go_wp2
    go_ret
    refine ⟨_, _, _, rfl, own1, ?_, b1⟩
    intro g hg
    rcases at1 with e | e
    · rw [hg] at e; simp [blkOf] at e; omega
    · rw [hg] at e; simp at e; omega
/-- what parse answers; S says what the pointers' cells hold -/
def RetPar (w : World) (S : Nat → World → Prop) (b : List UInt8) (kind m : Nat) (e : Ending) (w' : World) : Prop :=
  w.heap.size ≤ w'.heap.size ∧
  ((4 ≤ b.length ∧ Crc.sum (Wi.ahead b) = Wi.told b ∧ Wi.paOk (Wi.ahead b) kind (m + 2) = true ∧ ∃ A n c, e = .returned (.tuple #[.slice A n c, .int .i64 0]) ∧ Own8 w' 5 A n c (Wi.tail (Wi.ahead b) (m + 2)) ∧ (∀ g, blkOf A = some g → w.heap.size ≤ g) ∧ S m w') ∨
   (4 ≤ b.length ∧ Crc.sum (Wi.ahead b) = Wi.told b ∧ Wi.paOk (Wi.ahead b) kind (m + 2) = false ∧ e = .returned (.tuple #[.slice none 0 0, .int .i64 201]) ∧ ∃ k, S k w') ∨
   (4 ≤ b.length ∧ ¬ Crc.sum (Wi.ahead b) = Wi.told b ∧ e = .returned (.tuple #[.slice none 0 0, .int .i64 172]) ∧ ∃ k, S k w') ∨
   (b.length < 4 ∧ e = .returned (.tuple #[.slice none 0 0, .int .i64 201]) ∧ ∃ k, S k w'))

set_option maxRecDepth 100000 in
set_option maxHeartbeats 8000000 in
theorem parse_calls (A : Option Addr) (n c : Nat) (b : List UInt8) (kind : Nat) (Ap : Option Addr) (np cp : Nat) (ps : List (Nat × Nat)) (S : Nat → World → Prop) (w : World) (hn : n = b.length) (hc : n ≤ c) (hm : n ≤ 2000000) (hA : Byt w w.heap.size A b) (_hk : kind ≤ 1)
    (hnp : np = ps.length) (hmp : np ≤ 10) (hP : Recs w w.heap.size 1 Ap (ptrRows (addrs ps))) (hS0 : S 0 w) (hSb : ∀ k W W', S k W → Chg (fun q => w.heap.size ≤ q) W W' → S k W')
    (hSs : ∀ k (hk : k < ps.length) W, S k W → (∃ x : Int, W.cell? ⟨(ps[k]).1, (ps[k]).2, none⟩ = some (.int .i64 x)) ∧ W.frozen? ⟨(ps[k]).1, (ps[k]).2, none⟩ = false ∧ S (k + 1) (W.setCell ⟨(ps[k]).1, (ps[k]).2, none⟩ (.int .i64 (Wi.rdV (Wi.ahead b) (k + 1) : Int)))) (hlt : ∀ k (hk : k < ps.length), (ps[k]).1 < w.heap.size) :
    Calls Tryz.prog 27 #[.slice A n c, .int .i64 (kind : Int), .slice Ap np cp] w (RetPar w S b kind np) := by
  have HN := hide hn
  have HNP := hide hnp
  have HSb := hide hSb
  have HSs := hide hSs
  have HLT := hide hlt
  have HS0 := hide hS0
  clear hn hnp hSb hSs hlt hS0
  by_cases h4 : n < 4
  · have HL : Hid (b.length < 4) := by rw [← HN.out]; exact h4
    have hneg : (n : Int) - 4 < 0 := by omega
    go_enter Tryz.func27, Tryz.ntmps27
    go_wp2
    go_ret2
    exact ⟨Nat.le_refl _, .inr (.inr (.inr ⟨HL.out, rfl, 0, HS0.out⟩))⟩
  · obtain ⟨m, hm4⟩ : ∃ m, n = m + 4 := ⟨n - 4, by omega⟩
    have HL4 : Hid (4 ≤ b.length) := by show _ ≤ _; rw [← HN.out]; omega
    have HMb : Hid (b.length - 4 = m) := by show _ = _; rw [← HN.out]; omega
    subst hm4
    obtain ⟨gb, off, rfl, hgb, hcell⟩ := hA (by have := HN.out; omega)
    have e0 : (((m + 4 : Nat) : Int) - 4) = (m : Int) := by omega
    have hx : ∀ j, j < 4 → m + j < b.length := fun j hj => by have := HN.out; omega
    have c0 : w.cell? ⟨gb, off + m, none⟩ = some (.int .u8 ((b[m]'(hx 0 (by omega))).toNat : Int)) := hcell m _ (List.getElem?_eq_getElem _)
    have c1 : w.cell? ⟨gb, off + (m + 1), none⟩ = some (.int .u8 ((b[m + 1]'(hx 1 (by omega))).toNat : Int)) := hcell (m + 1) _ (List.getElem?_eq_getElem _)
    have c2 : w.cell? ⟨gb, off + (m + 2), none⟩ = some (.int .u8 ((b[m + 2]'(hx 2 (by omega))).toNat : Int)) := hcell (m + 2) _ (List.getElem?_eq_getElem _)
    have c3 : w.cell? ⟨gb, off + (m + 3), none⟩ = some (.int .u8 ((b[m + 3]'(hx 3 (by omega))).toNat : Int)) := hcell (m + 3) _ (List.getElem?_eq_getElem _)
    have HTold : Hid (Wi.told b = (((b[m]'(hx 0 (by omega))).toNat * 256 + (b[m + 1]'(hx 1 (by omega))).toNat) * 256 + (b[m + 2]'(hx 2 (by omega))).toNat) * 256 + (b[m + 3]'(hx 3 (by omega))).toNat) := by
      unfold Wi.told Wi.of4
      rw [HMb.out]
      simp only [List.getD, List.getElem?_drop, Nat.add_zero]
      rw [List.getElem?_eq_getElem (show m < b.length from hx 0 (by omega)), List.getElem?_eq_getElem (hx 1 (by omega)), List.getElem?_eq_getElem (hx 2 (by omega)), List.getElem?_eq_getElem (hx 3 (by omega))]
      exact rfl
    have h0 := (b[m]'(hx 0 (by omega))).toNat_lt
    have h1 := (b[m + 1]'(hx 1 (by omega))).toNat_lt
    have h2 := (b[m + 2]'(hx 2 (by omega))).toNat_lt
    have h3 := (b[m + 3]'(hx 3 (by omega))).toNat_lt
    generalize (b[m]'(hx 0 (by omega))).toNat = y0 at *
    generalize (b[m + 1]'(hx 1 (by omega))).toNat = y1 at *
    generalize (b[m + 2]'(hx 2 (by omega))).toNat = y2 at *
    generalize (b[m + 3]'(hx 3 (by omega))).toNat = y3 at *
    have HO4 := hide (or4 y0 y1 y2 y3 h0 h1 h2 h3)
    clear hcell hx
    go_enter Tryz.func27, Tryz.ntmps27
    go_wp2_with fail
    go_quiet (fail)
    rw [HO4.out, ← HTold.out]
    have belD := dN w nq
    have HAh : Hid (Wi.ahead b = b.take m) := by unfold Wi.ahead; rw [HMb.out]; exact rfl
    have hlt32 : Wi.told b < 4294967296 := by rw [HTold.out]; omega
    have yD : Byt (w.drewN nq) w.heap.size (some ⟨gb, off, none⟩) (Wi.ahead b) := by rw [HAh.out]; exact (hA.below belD).take m
    have hPD := hP.below belD
    have SD : S 0 (w.drewN nq) := HSb.out 0 w _ HS0.out (Chg.of_below belD)
    have HLA : Hid (m = (Wi.ahead b).length) := by show _ = _; rw [HAh.out, List.length_take, ← HN.out]; omega
    have hs1 : ∀ w', Sem.run Tryz.prog (Instr.sliceAt 23 (.slice (some ⟨gb, off, none⟩) (m + 4) c) none (some (.int .i64 (m : Int))) none) w' = .ok (.slice (some ⟨gb, off, none⟩) m c) w' := fun w' => run_cut8h bytesT _ (m + 4) c .i64 m _ rfl (by omega) w'
    clear c0 c1 c2 c3 h0 h1 h2 h3 HO4 hA hP HS0 HTold e0 HAh
    generalize w.drewN nq = wD at *
    obtain ⟨T, hT⟩ : ∃ T, Wi.told b = T := ⟨_, rfl⟩
    have HT := hide hT
    rw [hT] at hlt32 ⊢
    clear hT
    have hsm := C3.sum_calls (some ⟨gb, off, none⟩) m (Wi.ahead b) c wD HLA.out (by rw [← HLA.out]; omega) yD
    have hs32 : Crc.sum (Wi.ahead b) < 4294967296 := Crc.more_lt 0 _
    go_wp2_with fail
    refine hsm.mono ?_
    rintro e w1 ⟨rfl, b1⟩
    have bel1 := bnext belD b1
    have S1 := HSb.out 0 _ _ SD (Chg.of_below b1)
    have y1 := yD.below (b1.mono belD.size)
    have hP1 := hPD.below (b1.mono belD.size)
    clear hsm SD yD hPD b1 belD
    by_cases hse : Crc.sum (Wi.ahead b) = T
    · have HSE := hide hse
      rw [hse]
      have en : ((T : Int) != (T : Int)) = false := by simp
      clear hse hs32
      have hop := open_calls (some ⟨gb, off, none⟩) m c (Wi.ahead b) w1 HLA.out (by omega) y1
      go_wp2_with fail
      refine hop.mono ?_
      rintro e w2 ⟨rfl, rd2, b2⟩
      obtain ⟨gr, hgr⟩ : ∃ g, g = w1.heap.size + 1 := ⟨_, rfl⟩
      obtain ⟨rr, hrr⟩ : ∃ g, g = w1.heap.size := ⟨_, rfl⟩
      rw [← hgr, ← hrr] at rd2
      rw [← hgr]
      have zr : w.heap.size ≤ rr := by rw [hrr]; exact bel1.size
      have zg : w.heap.size ≤ gr := by omega
      have bel2 := bnext bel1 b2
      have S2 := HSb.out 0 _ _ S1 (Chg.of_below b2)
      have hP2 := hP1.below (b2.mono bel1.size)
      clear hgr hrr hop S1 y1 hP1 b2 bel1 en hs1
      have F6 := par_six w2 Ap np cp ps w.heap.size bel2.size hP2
      obtain ⟨k1, k2, q1, q2, q3, q6, b6⟩ := F6
      have rd6 := rd2.below b6
      have S6 := HSb.out 0 _ _ S2 (Chg.of_below b6)
      have bel6 := bnext bel2 b6
      have hcc := concat_calls _ _ _ _ 1 np 1 1 cp 1 [⟨w2.heap.size, 0, none⟩] (addrs ps) [⟨w2.heap.size + 1, 0, none⟩] _ q6 rfl (by rw [addrs, List.length_map]; exact HNP.out) rfl (by omega) (by omega) q1 q2 q3
      have z2 : w.heap.size ≤ w2.heap.size := bel2.size
      clear q1 q2 q3 q6 S2 rd2 hP2 bel2 b6
      go_wp2_with fail
      generalize ((((w2.alloc (.cells #[.int .i64 0] 3)).alloc (.cells #[.int .i64 0] 3)).alloc (.cells #[.pointer (some ⟨w2.heap.size, 0, none⟩)] 92)).alloc (.cells #[.pointer (some ⟨w2.heap.size + 1, 0, none⟩)] 92)).alloc (.cells #[.slice (some ⟨w2.heap.size + 1 + 1, 0, none⟩) 1 1, .slice Ap np cp, .slice (some ⟨w2.heap.size + 1 + 1 + 1, 0, none⟩) 1 1] 137) = V6 at *
      refine hcc.mono ?_
      rintro e w7 ⟨A7, c7, rfl, o7, g7, b7⟩
      have k17 := k1.below b7 k1.lt
      have k27 := k2.below b7 k2.lt
      have rd7 := rd6.below b7
      have S7 := HSb.out 0 _ _ S6 (Chg.of_below b7)
      have z7 : w.heap.size ≤ w7.heap.size := Nat.le_trans bel6.size b7.size
      have gA7 : ∀ q, blkOf A7 = some q → w.heap.size ≤ q := fun q hq => Nat.le_trans bel6.size (g7 q hq)
      obtain ⟨f1, hf1⟩ : ∃ f, f = w2.heap.size := ⟨_, rfl⟩
      obtain ⟨f2, hf2⟩ : ∃ f, f = w2.heap.size + 1 := ⟨_, rfl⟩
      rw [← hf2] at k27 o7 ⊢
      rw [← hf1] at k17 o7 ⊢
      have zf1 : w.heap.size ≤ f1 := by omega
      have zf2 : w.heap.size ≤ f2 := by omega
      have f12 : f1 ≠ f2 := by omega
      clear hf1 hf2 hcc k1 k2 rd6 S6 g7 b7 bel6 z2
      have HP0 : PSt w.heap.size S (Wi.ahead b) f1 f2 gr rr A7 c7 np ([⟨f1, 0, none⟩] ++ addrs ps ++ [⟨f2, 0, none⟩]) 0 0 w7 := ⟨o7, k17, k27, rd7, S7, z7⟩
      clear o7 k17 k27 rd7 S7 z7
      go_wp2
      go_loopw [69] (fun iv wr => ∃ k : Nat, k ≤ 1 + np + 1 ∧ iv = .int .i64 (k : Int) ∧ Hid (Wi.numsOk (Wi.ahead b) k = true) ∧ PSt w.heap.size S (Wi.ahead b) f1 f2 gr rr A7 c7 np ([⟨f1, 0, none⟩] ++ addrs ps ++ [⟨f2, 0, none⟩]) k k wr) (fun iv _ => 1 + np + 1 - (intOf iv).toNat)
      case atStart => exact ⟨0, by omega, rfl, rfl, HP0⟩
      case round =>
        obtain ⟨k, hk', rfl, hno, pst⟩ := hrel
        clear HP0
        by_cases hlt : k < 1 + np + 1
        · obtain ⟨ga, rw_, hAe, hrow, hrl, hcell⟩ := pst.1.at_ hlt
          obtain ⟨q, o, hp⟩ : ∃ q o, ([⟨f1, 0, none⟩] ++ addrs ps ++ [⟨f2, 0, none⟩] : List Addr)[k]? = some ⟨q, o, none⟩ := by
            rw [ptrRows, List.getElem?_map, Option.map_eq_some_iff] at hrow
            obtain ⟨p, hp, _⟩ := hrow
            have hm := List.mem_of_getElem? hp
            simp [addrs] at hm
            rcases hm with rfl | ⟨a, b, _, rfl⟩ | rfl
            · exact ⟨_, _, hp⟩
            · exact ⟨_, _, hp⟩
            · exact ⟨_, _, hp⟩
          have hc1 : wr.cell? ⟨ga, k, none⟩ = some (.pointer (some ⟨q, o, none⟩)) := by
            rw [ptrRows, List.getElem?_map, hp] at hrow
            injection hrow with hrow
            subst hrow
            have := hcell 0 _ rfl
            rw [Nat.mul_one, Nat.add_zero] at this
            exact this
          subst hAe
          clear hcell hrow hrl
          have hge := gget_any gr rr (Wi.ahead b) (Wi.rdK (Wi.ahead b) k) wr pst.2.2.2.1
          have hgv := Gol.gV_lt (bitsOf (Wi.ahead b) (Wi.rdK (Wi.ahead b) k))
          have HE : Hid (Gol.gE (bitsOf (Wi.ahead b) (Wi.rdK (Wi.ahead b) k)) = Wi.rdE (Wi.ahead b) k) := rfl
          have HV : Hid (Gol.gV (bitsOf (Wi.ahead b) (Wi.rdK (Wi.ahead b) k)) = Wi.rdV (Wi.ahead b) k) := rfl
          have HK : Hid (Wi.rdK (Wi.ahead b) k + Gol.gK (bitsOf (Wi.ahead b) (Wi.rdK (Wi.ahead b) k)) = Wi.rdK (Wi.ahead b) (k + 1)) := rfl
          rw [HE.out, HV.out, HK.out] at hge
          rw [HV.out] at hgv
          clear HE HV HK
          have HP := hide hp
          clear hp
          go_wp2_with fail
          refine hge.mono ?_
          rintro e w8 ⟨rfl, rd8, cg8⟩
          have p8 := pst.read cg8 rd8 zg HSb.out
          clear hge rd8 cg8 pst hc1
          by_cases hre : Wi.rdE (Wi.ahead b) k = 0
          · have HRE := hide hre
            rw [hre]
            clear hre
            obtain ⟨⟨x, hcx⟩, hfx, p9⟩ := p8.step HNP.out f12 zf1 zf2 zg zr gA7 HLT.out HSb.out HSs.out HP.out
            have HV2 : Hid (Wi.rdV (Wi.ahead b) k = Wi.rdV (Wi.ahead b) k) := rfl
            generalize hV : Wi.rdV (Wi.ahead b) k = V at p9 hgv ⊢
            go_wp2
            go_roundw
            case rel => exact ⟨k + 1, by omega, by go_num, numsOk_succ _ _ hno.out HRE.out, p9⟩
            case measure => simp [intOf]; omega
          · have HRE := hide hre
            have en : (Wi.rdE (Wi.ahead b) k != 0) = true := by simpa using hre
            clear hre
            go_wp2
            go_ret2
            exact ⟨p8.2.2.2.2.2, .inr (.inl ⟨HL4.out, by rw [HT.out]; exact HSE.out, by unfold Wi.paOk; rw [numsOk_bad _ k _ (by omega) HRE.out]; exact rfl, rfl, _, p8.2.2.2.2.1⟩)⟩
        · obtain rfl : k = 1 + np + 1 := by omega
          have ek : 1 + np + 1 = np + 2 := by omega
          obtain ⟨_, k1, k2, rd, hS, hz⟩ := pst
          rw [if_pos (by omega)] at k1
          rw [if_pos (by omega)] at k2
          have e3 : min (1 + np + 1 - 1) np = np := by omega
          rw [e3] at hS
          have HNO : Hid (Wi.numsOk (Wi.ahead b) (np + 2) = true) := by rw [← ek]; exact hno
          have q1 : wr.cell? ⟨f1, 0, none⟩ = some (.int .i64 (Wi.rdV (Wi.ahead b) 0 : Int)) := k1.cell 0
          have hgv0 : Wi.rdV (Wi.ahead b) 0 < _ := Gol.gV_lt (bitsOf (Wi.ahead b) (Wi.rdK (Wi.ahead b) 0))
          rw [ek] at rd
          clear hno e3 hk' hlt
          by_cases hf : Wi.rdV (Wi.ahead b) 0 = kind
          · have HF := hide hf
            rw [hf] at q1
            have en : ((kind : Int) != (kind : Int)) = false := by simp
            clear hf hgv0
            have hal := ralign_any gr rr _ _ wr rd
            rcases hB : Bit.restB (Bit.row (Wi.ahead b)) (Wi.rdK (Wi.ahead b) (np + 2)) with _ | _
            · have HB := hide hB
              rw [hB, show alE false = 11 from rfl] at hal
              clear hB
              go_wp2_with fail
              refine hal.mono ?_
              rintro e w8 ⟨rfl, rd8, cg8⟩
              have S8 := HSb.out _ _ _ hS (cg8.mono (fun i _ e => by have : i = gr := e; omega))
              go_wp2
              go_ret2
              exact ⟨Nat.le_trans hz cg8.size, .inr (.inl ⟨HL4.out, by rw [HT.out]; exact HSE.out, by unfold Wi.paOk; rw [HB.out]; simp, rfl, _, S8⟩)⟩
            · have HB := hide hB
              rw [hB, show alE true = 0 from rfl, show alK true (Wi.rdK (Wi.ahead b) (np + 2)) = 8 * ((Wi.rdK (Wi.ahead b) (np + 2) + 7) / 8) from rfl] at hal
              clear hB
              go_wp2_with fail
              refine hal.mono ?_
              rintro e w8 ⟨rfl, rd8, cg8⟩
              have S8 := HSb.out _ _ _ hS (cg8.mono (fun i _ e => by have : i = gr := e; omega))
              have k28 := cg8.blk k2 (fun e => (k2.ne_ rd.1 (by decide)) e)
              have hz8 := Nat.le_trans hz cg8.size
              have hrs := rest_calls gr rr _ _ w8 rd8
              rw [show (8 * ((Wi.rdK (Wi.ahead b) (np + 2) + 7) / 8) + 7) / 8 = (Wi.rdK (Wi.ahead b) (np + 2) + 7) / 8 by omega] at hrs
              have HTL : Hid ((Wi.ahead b).drop ((Wi.rdK (Wi.ahead b) (np + 2) + 7) / 8) = Wi.tail (Wi.ahead b) (np + 2)) := rfl
              have HTL2 : Hid ((Wi.tail (Wi.ahead b) (np + 2)).length ≤ 2000000) := by show _ ≤ _; unfold Wi.tail; rw [List.length_drop, ← HLA.out]; omega
              rw [HTL.out] at hrs
              clear hal rd8 cg8 hS k1 k2 q1 rd hz en
              go_wp2_with fail
              refine hrs.mono ?_
              rintro e w9 ⟨A9, n9, c9, rfl, own9, g9, b9⟩
              have HN9 : Hid (n9 = (Wi.tail (Wi.ahead b) (np + 2)).length) := own9.1
              have hn9 : n9 ≤ 2000000 := by rw [HN9.out]; exact HTL2.out
              have hcl := clone_calls A9 n9 c9 _ w9 HN9.out (by omega) own9.byt
              have S9 := HSb.out _ _ _ S8 (Chg.of_below b9)
              have k29 := k28.below b9 k28.lt
              have hz9 := Nat.le_trans hz8 b9.size
              clear hrs S8 k28 hz8 b9 own9 g9
              go_wp2_with fail
              refine hcl.mono ?_
              rintro e w10 ⟨A10, n10, c10, rfl, own10, g10, b10⟩
              have HN10 : Hid (n10 = (Wi.tail (Wi.ahead b) (np + 2)).length) := own10.1
              have hn10 : n10 ≤ 2000000 := by rw [HN10.out]; exact HTL2.out
              have S10 := HSb.out _ _ _ S9 (Chg.of_below b10)
              have k210 := k29.below b10 k29.lt
              have hz10 := Nat.le_trans hz9 b10.size
              have q2 : w10.cell? ⟨f2, 0, none⟩ = some (.int .i64 (Wi.rdV (Wi.ahead b) (np + 1) : Int)) := k210.cell 0
              have g10' : ∀ q, blkOf A10 = some q → w.heap.size ≤ q := fun q hq => Nat.le_trans hz9 (g10 q hq)
              clear hcl S9 k29 hz9 b10 g10
              by_cases hsz : n10 = Wi.rdV (Wi.ahead b) (np + 1)
              · have HSZ := hide hsz
                rw [← hsz] at q2
                have en : ((n10 : Int) != (n10 : Int)) = false := by simp
                clear hsz
                go_wp2
                go_ret2
                refine ⟨hz10, .inl ⟨HL4.out, by rw [HT.out]; exact HSE.out, ?_, A10, n10, c10, rfl, own10, g10', S10⟩⟩
                unfold Wi.paOk
                rw [HNO.out, HB.out, HF.out, HTL.out, ← HN10.out, show np + 2 - 1 = np + 1 from rfl, ← HSZ.out]
                simp
              · have HSZ := hide hsz
                have en : ((n10 : Int) != (Wi.rdV (Wi.ahead b) (np + 1) : Int)) = true := by
                  have : ¬ (n10 : Int) = (Wi.rdV (Wi.ahead b) (np + 1) : Int) := by omega
                  simpa using this
                clear hsz
                go_wp2
                go_ret2
                refine ⟨hz10, .inr (.inl ⟨HL4.out, by rw [HT.out]; exact HSE.out, ?_, rfl, _, S10⟩)⟩
                unfold Wi.paOk
                rw [HTL.out, ← HN10.out, show np + 2 - 1 = np + 1 from rfl, show (n10 == Wi.rdV (Wi.ahead b) (np + 1)) = false by simpa using HSZ.out]
                simp
          · have HF := hide hf
            have en : ((Wi.rdV (Wi.ahead b) 0 : Int) != (kind : Int)) = true := by
              have : ¬ (Wi.rdV (Wi.ahead b) 0 : Int) = (kind : Int) := by omega
              simpa using this
            clear hf
            go_wp2
            go_ret2
            exact ⟨hz, .inr (.inl ⟨HL4.out, by rw [HT.out]; exact HSE.out, by unfold Wi.paOk; rw [show (Wi.rdV (Wi.ahead b) 0 == kind) = false by simpa using HF.out]; simp, rfl, _, hS⟩)⟩
    · have HSE := hide hse
      have en : ((Crc.sum (Wi.ahead b) : Int) != (T : Int)) = true := by
        have : ¬ (Crc.sum (Wi.ahead b) : Int) = (T : Int) := by omega
        simpa using this
      go_wp2
      go_ret2
      exact ⟨bel1.size, .inr (.inr (.inl ⟨HL4.out, by rw [HT.out]; exact HSE.out, rfl, 0, S1⟩))⟩
end Go.Proofs.YtbfhpgpceakeiaaGreatDoor.C20
namespace Wi
open Kin

/-- parse's error -/
def paE (b : List UInt8) (kind m : Nat) : Int := if b.length < 4 then 201 else if ¬ Crc.sum (ahead b) = told b then 172 else if paOk (ahead b) kind m = true then 0 else 201
def qok (b : List UInt8) : Bool := rq (rdV (ahead b) 1) (str (tail (ahead b) 5)) (rdV (ahead b) 2) ((rdV (ahead b) 3 : Int) - 1)
def pqE (b : List UInt8) : Int := if paE b 0 5 = 0 then (if qok b = true then 0 else 201) else paE b 0 5
def pqI (b : List UInt8) : Int := if pqE b = 0 then (rdV (ahead b) 1 : Int) else 0
def pqP (b : List UInt8) : ByteArray := if pqE b = 0 then str (tail (ahead b) 5) else ⟨#[]⟩
def pqF (b : List UInt8) : Int := if pqE b = 0 then (rdV (ahead b) 2 : Int) else 0
def pqT (b : List UInt8) : Int := if pqE b = 0 then (rdV (ahead b) 3 : Int) - 1 else 0
def rok (b : List UInt8) : Bool := rr (rdV (ahead b) 1) (rdV (ahead b) 2) (rdV (ahead b) 3) (rdV (ahead b) 4) (tail (ahead b) 6).length
def prE (b : List UInt8) : Int := if paE b 1 6 = 0 then (if rok b = true then 0 else 201) else paE b 1 6
def prI (b : List UInt8) : Int := if prE b = 0 then (rdV (ahead b) 1 : Int) else 0
def prS (b : List UInt8) : Int := if prE b = 0 then (rdV (ahead b) 2 : Int) else 0
def prF (b : List UInt8) : Int := if prE b = 0 then (rdV (ahead b) 3 : Int) else 0
def prZ (b : List UInt8) : Int := if prE b = 0 then (rdV (ahead b) 4 : Int) else 0
def prB (b : List UInt8) : List UInt8 := if prE b = 0 then tail (ahead b) 6 else []
end Wi
namespace Go.Proofs.YtbfhpgpceakeiaaGreatDoor.C20
open Go.RowKit Kin

/-- parse's answer in two cases -/
theorem par_two {w w' : World} {S : Nat → World → Prop} {b : List UInt8} {kind m : Nat} {e : Ending} (h : RetPar w S b kind m e w') :
    (Wi.paE b kind (m + 2) = 0 ∧ ∃ A n c, e = .returned (.tuple #[.slice A n c, .int .i64 0]) ∧ Own8 w' 5 A n c (Wi.tail (Wi.ahead b) (m + 2)) ∧ (∀ g, blkOf A = some g → w.heap.size ≤ g) ∧ S m w') ∨
    (Wi.paE b kind (m + 2) ≠ 0 ∧ e = .returned (.tuple #[.slice none 0 0, .int .i64 (Wi.paE b kind (m + 2))]) ∧ ∃ k, S k w') := by
  obtain ⟨_, h⟩ := h
  rcases h with ⟨h1, h2, h3, A, n, c, rfl, h4⟩ | ⟨h1, h2, h3, rfl, h4⟩ | ⟨h1, h2, rfl, h4⟩ | ⟨h1, rfl, h4⟩
  · have e0 : Wi.paE b kind (m + 2) = 0 := by unfold Wi.paE; rw [if_neg (by omega), if_neg (by simpa using h2), if_pos h3]
    exact .inl ⟨e0, A, n, c, rfl, h4⟩
  · have e0 : Wi.paE b kind (m + 2) = 201 := by unfold Wi.paE; rw [if_neg (by omega), if_neg (by simpa using h2), if_neg (by rw [h3]; decide)]
    rw [e0]
    exact .inr ⟨by decide, rfl, h4⟩
  · have e0 : Wi.paE b kind (m + 2) = 172 := by unfold Wi.paE; rw [if_neg (by omega), if_pos h2]
    rw [e0]
    exact .inr ⟨by decide, rfl, h4⟩
  · have e0 : Wi.paE b kind (m + 2) = 201 := by unfold Wi.paE; rw [if_pos h1]
    rw [e0]
    exact .inr ⟨by decide, rfl, h4⟩

def sv (k i : Nat) (v : Nat) : Int := if i < k then (v : Int) else 0
abbrev zreq : Array Value := #[.int .i64 0, .string ⟨#[]⟩, .int .i64 0, .int .i64 0]
abbrev zres : Array Value := #[.int .i64 0, .int .i64 0, .int .i64 0, .int .i64 0, .slice none 0 0]
/-- what lies in a request's cells behind k stores -/
def SQ (w0 : World) (g0 gq : Nat) (l : List UInt8) (k : Nat) (W : World) : Prop :=
  Blk W gq 27 #[.int .i64 (sv k 0 (Wi.rdV l 1)), .string ⟨#[]⟩, .int .i64 (sv k 1 (Wi.rdV l 2)), .int .i64 (sv k 2 (Wi.rdV l 3))] ∧ Blk W g0 27 zreq ∧ Below w0.heap.size w0 W
/-- likewise a response's, and the status beside it -/
def SR (w0 : World) (g0 gq gs : Nat) (l : List UInt8) (k : Nat) (W : World) : Prop :=
  Blk W gq 25 #[.int .i64 (sv k 0 (Wi.rdV l 1)), .int .i64 0, .int .i64 (sv k 2 (Wi.rdV l 3)), .int .i64 (sv k 3 (Wi.rdV l 4)), .slice none 0 0] ∧ Blk W gs 3 #[.int .i64 (sv k 1 (Wi.rdV l 2))] ∧ Blk W g0 25 zres ∧ Below w0.heap.size w0 W
theorem SQ.stable {w0 w : World} {g0 gq : Nat} {l : List UInt8} (h0 : w0.heap.size ≤ w.heap.size) (hg0 : g0 < w.heap.size) (hgq : gq < w.heap.size) : ∀ k W W', SQ w0 g0 gq l k W → Chg (fun q => w.heap.size ≤ q) W W' → SQ w0 g0 gq l k W' := by
  rintro k W W' ⟨h1, h2, h3⟩ hc
  exact ⟨hc.blk h1 (by show ¬ _ ≤ _; omega), hc.blk h2 (by show ¬ _ ≤ _; omega), h3.trans (hc.below (fun i (hi : _ ≤ i) => by omega) h3.size)⟩
theorem SR.stable {w0 w : World} {g0 gq gs : Nat} {l : List UInt8} (h0 : w0.heap.size ≤ w.heap.size) (hg0 : g0 < w.heap.size) (hgq : gq < w.heap.size) (hgs : gs < w.heap.size) : ∀ k W W', SR w0 g0 gq gs l k W → Chg (fun q => w.heap.size ≤ q) W W' → SR w0 g0 gq gs l k W' := by
  rintro k W W' ⟨h1, h4, h2, h3⟩ hc
  exact ⟨hc.blk h1 (by show ¬ _ ≤ _; omega), hc.blk h4 (by show ¬ _ ≤ _; omega), hc.blk h2 (by show ¬ _ ≤ _; omega), h3.trans (hc.below (fun i (hi : _ ≤ i) => by omega) h3.size)⟩
theorem SQ.store {w0 : World} {g0 gq : Nat} {l : List UInt8} (hq : w0.heap.size ≤ gq) (hne : g0 ≠ gq) : ∀ k (_hk : k < [(gq, 0), (gq, 2), (gq, 3)].length) W, SQ w0 g0 gq l k W → (∃ x : Int, W.cell? ⟨([(gq, 0), (gq, 2), (gq, 3)][k]).1, ([(gq, 0), (gq, 2), (gq, 3)][k]).2, none⟩ = some (.int .i64 x)) ∧ W.frozen? ⟨([(gq, 0), (gq, 2), (gq, 3)][k]).1, ([(gq, 0), (gq, 2), (gq, 3)][k]).2, none⟩ = false ∧ SQ w0 g0 gq l (k + 1) (W.setCell ⟨([(gq, 0), (gq, 2), (gq, 3)][k]).1, ([(gq, 0), (gq, 2), (gq, 3)][k]).2, none⟩ (.int .i64 (Wi.rdV l (k + 1) : Int))) := by
  rintro k hk W ⟨h1, h2, h3⟩
  have hk3 : k = 0 ∨ k = 1 ∨ k = 2 := by simp at hk; omega
  rcases hk3 with rfl | rfl | rfl
  · exact ⟨⟨_, h1.cell 0⟩, h1.frozen 0, h1.set_ 0 _, h2.far hne _, h3.setCell hq _⟩
  · exact ⟨⟨_, h1.cell 2⟩, h1.frozen 2, h1.set_ 2 _, h2.far hne _, h3.setCell hq _⟩
  · exact ⟨⟨_, h1.cell 3⟩, h1.frozen 3, h1.set_ 3 _, h2.far hne _, h3.setCell hq _⟩
theorem SR.store {w0 : World} {g0 gq gs : Nat} {l : List UInt8} (hq : w0.heap.size ≤ gq) (hs : w0.heap.size ≤ gs) (hne : g0 ≠ gq) (hns : g0 ≠ gs) (hqs : gq ≠ gs) : ∀ k (_hk : k < [(gq, 0), (gs, 0), (gq, 2), (gq, 3)].length) W, SR w0 g0 gq gs l k W → (∃ x : Int, W.cell? ⟨([(gq, 0), (gs, 0), (gq, 2), (gq, 3)][k]).1, ([(gq, 0), (gs, 0), (gq, 2), (gq, 3)][k]).2, none⟩ = some (.int .i64 x)) ∧ W.frozen? ⟨([(gq, 0), (gs, 0), (gq, 2), (gq, 3)][k]).1, ([(gq, 0), (gs, 0), (gq, 2), (gq, 3)][k]).2, none⟩ = false ∧ SR w0 g0 gq gs l (k + 1) (W.setCell ⟨([(gq, 0), (gs, 0), (gq, 2), (gq, 3)][k]).1, ([(gq, 0), (gs, 0), (gq, 2), (gq, 3)][k]).2, none⟩ (.int .i64 (Wi.rdV l (k + 1) : Int))) := by
  rintro k hk W ⟨h1, h4, h2, h3⟩
  have hk3 : k = 0 ∨ k = 1 ∨ k = 2 ∨ k = 3 := by simp at hk; omega
  rcases hk3 with rfl | rfl | rfl | rfl
  · exact ⟨⟨_, h1.cell 0⟩, h1.frozen 0, h1.set_ 0 _, h4.far (Ne.symm hqs) _, h2.far hne _, h3.setCell hq _⟩
  · exact ⟨⟨_, h4.cell 0⟩, h4.frozen 0, h1.far hqs _, h4.set_ 0 _, h2.far hns _, h3.setCell hs _⟩
  · exact ⟨⟨_, h1.cell 2⟩, h1.frozen 2, h1.set_ 2 _, h4.far (Ne.symm hqs) _, h2.far hne _, h3.setCell hq _⟩
  · exact ⟨⟨_, h1.cell 3⟩, h1.frozen 3, h1.set_ 3 _, h4.far (Ne.symm hqs) _, h2.far hne _, h3.setCell hq _⟩
theorem ptrs_new (w : World) (ps : List (Nat × Nat)) (cs : Array Value) (e : TypeId) (g : Nat) (hg : w.heap.size = g) (h : cs.toList = (addrs ps).map fun p => .pointer (some p)) : Recs (w.alloc (.cells cs e)) (w.alloc (.cells cs e)).heap.size 1 (some ⟨g, 0, none⟩) (ptrRows (addrs ps)) := by
  subst hg
  intro _
  refine ⟨w.heap.size, 0, rfl, by simp, fun i row hi => ?_⟩
  rw [ptrRows, List.getElem?_map, Option.map_eq_some_iff] at hi
  obtain ⟨p, hp, rfl⟩ := hi
  refine ⟨rfl, fun j v hj => ?_⟩
  rcases j with _ | j
  · simp at hj
    subst hj
    rw [cell_of_row _ _ _ cs e (0, 0) (heap_alloc_new w _), Nat.zero_add, Nat.mul_one, Nat.add_zero]
    have : cs.toList[i]? = some (.pointer (some p)) := by rw [h, List.getElem?_map, hp]; exact rfl
    simpa using this
  · simp at hj

theorem set4 {w V : World} {g : Nat} {t : TypeId} {a b c d : Value} (h : Blk V g t #[a, b, c, d]) (hb : Below w.heap.size w V) (hg : w.heap.size ≤ g) (x y z u : Value) :
    Blk ((((V.setCell ⟨g, 0, none⟩ x).setCell ⟨g, 1, none⟩ y).setCell ⟨g, 2, none⟩ z).setCell ⟨g, 3, none⟩ u) g t #[x, y, z, u] ∧ Below w.heap.size w ((((V.setCell ⟨g, 0, none⟩ x).setCell ⟨g, 1, none⟩ y).setCell ⟨g, 2, none⟩ z).setCell ⟨g, 3, none⟩ u) :=
  ⟨by simpa using (((h.set_ 0 x).set_ 1 y).set_ 2 z).set_ 3 u, (((hb.setCell (p := ⟨g, 0, none⟩) hg x).setCell (p := ⟨g, 1, none⟩) hg y).setCell (p := ⟨g, 2, none⟩) hg z).setCell (p := ⟨g, 3, none⟩) hg u⟩
theorem set5 {w V : World} {g : Nat} {t : TypeId} {a b c d e : Value} (h : Blk V g t #[a, b, c, d, e]) (hb : Below w.heap.size w V) (hg : w.heap.size ≤ g) (x y z u v : Value) :
    Blk (((((V.setCell ⟨g, 0, none⟩ x).setCell ⟨g, 1, none⟩ y).setCell ⟨g, 2, none⟩ z).setCell ⟨g, 3, none⟩ u).setCell ⟨g, 4, none⟩ v) g t #[x, y, z, u, v] ∧ Below w.heap.size w (((((V.setCell ⟨g, 0, none⟩ x).setCell ⟨g, 1, none⟩ y).setCell ⟨g, 2, none⟩ z).setCell ⟨g, 3, none⟩ u).setCell ⟨g, 4, none⟩ v) :=
  ⟨by simpa using ((((h.set_ 0 x).set_ 1 y).set_ 2 z).set_ 3 u).set_ 4 v, ((((hb.setCell (p := ⟨g, 0, none⟩) hg x).setCell (p := ⟨g, 1, none⟩) hg y).setCell (p := ⟨g, 2, none⟩) hg z).setCell (p := ⟨g, 3, none⟩) hg u).setCell (p := ⟨g, 4, none⟩) hg v⟩
theorem rdV_lt (l : List UInt8) (i : Nat) : Wi.rdV l i < 9223372036854775808 := Gol.gV_lt _

def RetQ (w : World) (b : List UInt8) (e : Ending) (w' : World) : Prop :=
  e = .returned (.tuple #[reqV (Wi.pqI b) (Wi.pqP b) (Wi.pqF b) (Wi.pqT b), .int .i64 (Wi.pqE b)]) ∧ Below w.heap.size w w'
theorem pq_bad {b : List UInt8} (h : Wi.pqE b ≠ 0) : reqV (Wi.pqI b) (Wi.pqP b) (Wi.pqF b) (Wi.pqT b) = .agg zreq := by
  unfold Wi.pqI Wi.pqP Wi.pqF Wi.pqT
  rw [if_neg h, if_neg h, if_neg h, if_neg h]
theorem pq_good {b : List UInt8} (h : Wi.pqE b = 0) : reqV (Wi.pqI b) (Wi.pqP b) (Wi.pqF b) (Wi.pqT b) = reqV (Wi.rdV (Wi.ahead b) 1) (str (Wi.tail (Wi.ahead b) 5)) (Wi.rdV (Wi.ahead b) 2) ((Wi.rdV (Wi.ahead b) 3 : Int) - 1) := by
  unfold Wi.pqI Wi.pqP Wi.pqF Wi.pqT
  rw [if_pos h, if_pos h, if_pos h, if_pos h]

set_option maxRecDepth 100000 in
set_option maxHeartbeats 4000000 in
theorem prq_calls (A : Option Addr) (n c : Nat) (b : List UInt8) (w : World) (hn : n = b.length) (hc : n ≤ c) (hm : n ≤ 2000000) (hA : Byt w w.heap.size A b) :
    Calls Tryz.prog 12 #[.slice A n c] w (RetQ w b) := by
  have s1 : (w.alloc (.cells zreq 27)).heap.size = w.heap.size + 1 := World.size_alloc _ _
  have s2 : ((w.alloc (.cells zreq 27)).alloc (.cells zreq 27)).heap.size = w.heap.size + 1 + 1 := by rw [World.size_alloc, s1]
  have n1 := Blk.new w 27 zreq
  have n2 := Blk.new (w.alloc (.cells zreq 27)) 27 zreq
  rw [s1] at n2
  have r3 := ptrs_new ((w.alloc (.cells zreq 27)).alloc (.cells zreq 27)) [(w.heap.size + 1, 0), (w.heap.size + 1, 2), (w.heap.size + 1, 3)] #[.pointer (some ⟨w.heap.size + 1, 0, none⟩), .pointer (some ⟨w.heap.size + 1, 2, none⟩), .pointer (some ⟨w.heap.size + 1, 3, none⟩)] 92 _ s2 rfl
  have bA : Below w.heap.size w (((w.alloc (.cells zreq 27)).alloc (.cells zreq 27)).alloc (.cells #[.pointer (some ⟨w.heap.size + 1, 0, none⟩), .pointer (some ⟨w.heap.size + 1, 2, none⟩), .pointer (some ⟨w.heap.size + 1, 3, none⟩)] 92)) := (((Below.refl _ _).alloc (Nat.le_refl _) _).alloc (by rw [s1]; omega) _).alloc (by rw [s2]; omega) _
  have s3 : (((w.alloc (.cells zreq 27)).alloc (.cells zreq 27)).alloc (.cells #[.pointer (some ⟨w.heap.size + 1, 0, none⟩), .pointer (some ⟨w.heap.size + 1, 2, none⟩), .pointer (some ⟨w.heap.size + 1, 3, none⟩)] 92)).heap.size = w.heap.size + 1 + 1 + 1 := by rw [World.size_alloc, s2]
  have hS : SQ w w.heap.size (w.heap.size + 1) (Wi.ahead b) 0 (((w.alloc (.cells zreq 27)).alloc (.cells zreq 27)).alloc (.cells #[.pointer (some ⟨w.heap.size + 1, 0, none⟩), .pointer (some ⟨w.heap.size + 1, 2, none⟩), .pointer (some ⟨w.heap.size + 1, 3, none⟩)] 92)) := ⟨n2.alloc _, (n1.alloc _).alloc _, bA⟩
  have hst := SQ.stable (w0 := w) (w := (((w.alloc (.cells zreq 27)).alloc (.cells zreq 27)).alloc (.cells #[.pointer (some ⟨w.heap.size + 1, 0, none⟩), .pointer (some ⟨w.heap.size + 1, 2, none⟩), .pointer (some ⟨w.heap.size + 1, 3, none⟩)] 92))) (g0 := w.heap.size) (gq := w.heap.size + 1) (l := Wi.ahead b) (by omega) (by omega) (by omega)
  have hpa := parse_calls A n c b 0 (some ⟨w.heap.size + 1 + 1, 0, none⟩) 3 3 _ (SQ w w.heap.size (w.heap.size + 1) (Wi.ahead b)) _ hn hc hm ((hA.below bA).more (by omega)) (by omega) rfl (by omega) r3 hS hst (SQ.store (by omega) (by omega)) (by
    intro k hk
    have hk3 : k = 0 ∨ k = 1 ∨ k = 2 := by simp at hk; omega
    rcases hk3 with rfl | rfl | rfl
    · show w.heap.size + 1 < _; omega
    · show w.heap.size + 1 < _; omega
    · show w.heap.size + 1 < _; omega)
  have HN := hide hn
  clear hn r3 n1 n2 hst hS s1 s2 hA
  go_enter Tryz.func12, Tryz.ntmps12
  go_wp2_with fail
  refine hpa.mono ?_
  intro e w1 hr
  have hr := par_two hr
  clear hpa
  rcases hr with ⟨h0, A1, n1, c1, rfl, o1, g1, S1⟩ | ⟨h0, rfl, k, S1⟩
  · obtain ⟨q1, q0, bel1⟩ := S1
    have q1 : Blk w1 (w.heap.size + 1) 27 #[.int .i64 (Wi.rdV (Wi.ahead b) 1 : Int), .string ⟨#[]⟩, .int .i64 (Wi.rdV (Wi.ahead b) 2 : Int), .int .i64 (Wi.rdV (Wi.ahead b) 3 : Int)] := q1
    have l3 := rdV_lt (Wi.ahead b) 3
    have HE0 := hide h0
    have HQ0 : Hid (Wi.qok b = Wi.rq (Wi.rdV (Wi.ahead b) 1) (str (Wi.tail (Wi.ahead b) 5)) (Wi.rdV (Wi.ahead b) 2) ((Wi.rdV (Wi.ahead b) 3 : Int) - 1)) := rfl
    have HPG := hide (@pq_good b)
    have HPB := hide (@pq_bad b)
    have hgA : ∀ q, blkOf A1 = some q → w.heap.size + 1 < q := fun q hq => by have := g1 q hq; omega
    clear g1 h0 s3 bA
    generalize Wi.rdV (Wi.ahead b) 1 = v1 at *
    generalize Wi.rdV (Wi.ahead b) 2 = v2 at *
    generalize Wi.rdV (Wi.ahead b) 3 = v3 at *
    have c3 : w1.cell? ⟨w.heap.size + 1, 3, none⟩ = some (.int .i64 (v3 : Int)) := q1.cell 3
    have z3 := q1.frozen 3
    have qq := q1.set_ 3 (.int .i64 ((v3 : Int) - 1))
    have c1' : (w1.setCell ⟨w.heap.size + 1, 3, none⟩ (.int .i64 ((v3 : Int) - 1))).cell? ⟨w.heap.size + 1, 1, none⟩ = some (.string ⟨#[]⟩) := qq.cell 1
    have z1' := qq.frozen 1
    have o1' : Own8 (w1.setCell ⟨w.heap.size + 1, 3, none⟩ (.int .i64 ((v3 : Int) - 1))) 5 A1 n1 c1 (Wi.tail (Wi.ahead b) 5) := (chg_one w1 (w.heap.size + 1) 3 _).own o1 (fun q hq e => by have : q = _ := e; have := hgA q hq; omega)
    have hcv : Sem.run Tryz.prog (convert 23 9 (.slice A1 n1 c1)) (w1.setCell ⟨w.heap.size + 1, 3, none⟩ (.int .i64 ((v3 : Int) - 1))) = .ok (.string (str (Wi.tail (Wi.ahead b) 5))) (w1.setCell ⟨w.heap.size + 1, 3, none⟩ (.int .i64 ((v3 : Int) - 1))) := run_conv8 bytesT Tryz.underlying9 A1 n1 c1 _ o1'.byt o1'.1
    generalize str (Wi.tail (Wi.ahead b) 5) = T at *
    have q2 : Blk ((w1.setCell ⟨w.heap.size + 1, 3, none⟩ (.int .i64 ((v3 : Int) - 1))).setCell ⟨w.heap.size + 1, 1, none⟩ (.string T)) (w.heap.size + 1) 27 #[.int .i64 (v1 : Int), .string T, .int .i64 (v2 : Int), .int .i64 ((v3 : Int) - 1)] := by simpa using qq.set_ 1 (.string T)
    have q02 : Blk ((w1.setCell ⟨w.heap.size + 1, 3, none⟩ (.int .i64 ((v3 : Int) - 1))).setCell ⟨w.heap.size + 1, 1, none⟩ (.string T)) w.heap.size 27 zreq := (q0.far (by show _ ≠ _ + 1; omega) _).far (by show _ ≠ _ + 1; omega) _
    have bel2 : Below w.heap.size w ((w1.setCell ⟨w.heap.size + 1, 3, none⟩ (.int .i64 ((v3 : Int) - 1))).setCell ⟨w.heap.size + 1, 1, none⟩ (.string T)) := (bel1.setCell (p := ⟨w.heap.size + 1, 3, none⟩) (by show _ ≤ _ + 1; omega) _).setCell (p := ⟨w.heap.size + 1, 1, none⟩) (by show _ ≤ _ + 1; omega) _
    clear o1 o1' q1 q0 bel1 qq hgA
    have e0 : ((w1.setCell ⟨w.heap.size + 1, 3, none⟩ (.int .i64 ((v3 : Int) - 1))).setCell ⟨w.heap.size + 1, 1, none⟩ (.string T)).cell? ⟨w.heap.size + 1, 0, none⟩ = some (.int .i64 (v1 : Int)) := q2.cell 0
    have e1 : ((w1.setCell ⟨w.heap.size + 1, 3, none⟩ (.int .i64 ((v3 : Int) - 1))).setCell ⟨w.heap.size + 1, 1, none⟩ (.string T)).cell? ⟨w.heap.size + 1, 1, none⟩ = some (.string T) := q2.cell 1
    have e2 : ((w1.setCell ⟨w.heap.size + 1, 3, none⟩ (.int .i64 ((v3 : Int) - 1))).setCell ⟨w.heap.size + 1, 1, none⟩ (.string T)).cell? ⟨w.heap.size + 1, 2, none⟩ = some (.int .i64 (v2 : Int)) := q2.cell 2
    have e3 : ((w1.setCell ⟨w.heap.size + 1, 3, none⟩ (.int .i64 ((v3 : Int) - 1))).setCell ⟨w.heap.size + 1, 1, none⟩ (.string T)).cell? ⟨w.heap.size + 1, 3, none⟩ = some (.int .i64 ((v3 : Int) - 1)) := q2.cell 3
    have hrq := rq_calls v1 T v2 ((v3 : Int) - 1) ((w1.setCell ⟨w.heap.size + 1, 3, none⟩ (.int .i64 ((v3 : Int) - 1))).setCell ⟨w.heap.size + 1, 1, none⟩ (.string T))
    rw [← HQ0.out] at hrq
    go_wp2_with fail
    clear hcv z1' c1' z3 c3
    generalize (w1.setCell ⟨w.heap.size + 1, 3, none⟩ (.int .i64 ((v3 : Int) - 1))).setCell ⟨w.heap.size + 1, 1, none⟩ (.string T) = W2 at *
    refine hrq.mono ?_
    rintro e w3 ⟨rfl, b3⟩
    have q3 := q2.below b3 q2.lt
    have q03 := q02.below b3 q02.lt
    have bel3 := bnext bel2 b3
    have z0 := q03.frozen 0
    have z1 := q03.frozen 1
    have z2 := q03.frozen 2
    have z3 := q03.frozen 3
    have k0 : w3.cell? ⟨w.heap.size, 0, none⟩ = some (.int .i64 0) := q03.cell 0
    have k1 : w3.cell? ⟨w.heap.size, 1, none⟩ = some (.string ⟨#[]⟩) := q03.cell 1
    have k2 : w3.cell? ⟨w.heap.size, 2, none⟩ = some (.int .i64 0) := q03.cell 2
    have k3 : w3.cell? ⟨w.heap.size, 3, none⟩ = some (.int .i64 0) := q03.cell 3
    clear hrq e0 e1 e2 e3 q2 q02 b3 bel2
    cases hq : Wi.qok b
    · have HE : Hid (Wi.pqE b = 201) := by unfold Wi.pqE; rw [HE0.out, if_pos rfl, hq]; exact rfl
      have HV := HPB.out (by rw [HE.out]; decide)
      obtain ⟨qF, bF⟩ := set4 q03 bel3 (Nat.le_refl _) (.int .i64 0) (.string ⟨#[]⟩) (.int .i64 0) (.int .i64 0)
      go_wp2
      generalize ((((w3.setCell ⟨w.heap.size, 0, none⟩ (.int .i64 0)).setCell ⟨w.heap.size, 1, none⟩ (.string ⟨#[]⟩)).setCell ⟨w.heap.size, 2, none⟩ (.int .i64 0)).setCell ⟨w.heap.size, 3, none⟩ (.int .i64 0)) = F at *
      have y0 : F.cell? ⟨w.heap.size, 0, none⟩ = some (.int .i64 0) := qF.cell 0
      have y1 : F.cell? ⟨w.heap.size, 1, none⟩ = some (.string ⟨#[]⟩) := qF.cell 1
      have y2 : F.cell? ⟨w.heap.size, 2, none⟩ = some (.int .i64 0) := qF.cell 2
      have y3 : F.cell? ⟨w.heap.size, 3, none⟩ = some (.int .i64 0) := qF.cell 3
      refine bodyPost_ret (v := .tuple #[.agg zreq, .int .i64 201]) (by simp [results, Tryz.results12, go_sem, y0, y1, y2, y3]) rfl ?_
      exact ⟨by rw [HV, HE.out], bF⟩
    · have HE : Hid (Wi.pqE b = 0) := by unfold Wi.pqE; rw [HE0.out, if_pos rfl, hq]; exact rfl
      have HV := HPG.out HE.out
      have e0 : w3.cell? ⟨w.heap.size + 1, 0, none⟩ = some (.int .i64 (v1 : Int)) := q3.cell 0
      have e1 : w3.cell? ⟨w.heap.size + 1, 1, none⟩ = some (.string T) := q3.cell 1
      have e2 : w3.cell? ⟨w.heap.size + 1, 2, none⟩ = some (.int .i64 (v2 : Int)) := q3.cell 2
      have e3 : w3.cell? ⟨w.heap.size + 1, 3, none⟩ = some (.int .i64 ((v3 : Int) - 1)) := q3.cell 3
      obtain ⟨qF, bF⟩ := set4 q03 bel3 (Nat.le_refl _) (.int .i64 v1) (.string T) (.int .i64 v2) (.int .i64 ((v3 : Int) - 1))
      go_wp2
      generalize ((((w3.setCell ⟨w.heap.size, 0, none⟩ (.int .i64 v1)).setCell ⟨w.heap.size, 1, none⟩ (.string T)).setCell ⟨w.heap.size, 2, none⟩ (.int .i64 v2)).setCell ⟨w.heap.size, 3, none⟩ (.int .i64 ((v3 : Int) - 1))) = F at *
      have y0 : F.cell? ⟨w.heap.size, 0, none⟩ = some (.int .i64 v1) := qF.cell 0
      have y1 : F.cell? ⟨w.heap.size, 1, none⟩ = some (.string T) := qF.cell 1
      have y2 : F.cell? ⟨w.heap.size, 2, none⟩ = some (.int .i64 v2) := qF.cell 2
      have y3 : F.cell? ⟨w.heap.size, 3, none⟩ = some (.int .i64 ((v3 : Int) - 1)) := qF.cell 3
      refine bodyPost_ret (v := .tuple #[reqV v1 T v2 ((v3 : Int) - 1), .int .i64 0]) (by simp [results, Tryz.results12, go_sem, y0, y1, y2, y3]) rfl ?_
      exact ⟨by rw [HV, HE.out], bF⟩
  · obtain ⟨_, q0, bel1⟩ := S1
    have HE : Hid (Wi.pqE b = Wi.paE b 0 5) := if_neg h0
    have hE : Wi.pqE b ≠ 0 := by rw [HE.out]; exact h0
    have HV := hide (pq_bad hE)
    have en : (Wi.paE b 0 5 != 0) = true := by simpa using h0
    have z0 := q0.frozen 0
    have z1 := q0.frozen 1
    have z2 := q0.frozen 2
    have z3 := q0.frozen 3
    have k0 : w1.cell? ⟨w.heap.size, 0, none⟩ = some (.int .i64 0) := q0.cell 0
    have k1 : w1.cell? ⟨w.heap.size, 1, none⟩ = some (.string ⟨#[]⟩) := q0.cell 1
    have k2 : w1.cell? ⟨w.heap.size, 2, none⟩ = some (.int .i64 0) := q0.cell 2
    have k3 : w1.cell? ⟨w.heap.size, 3, none⟩ = some (.int .i64 0) := q0.cell 3
    clear h0 hE
    obtain ⟨qF, bF⟩ := set4 q0 bel1 (Nat.le_refl _) (.int .i64 0) (.string ⟨#[]⟩) (.int .i64 0) (.int .i64 0)
    go_wp2
    generalize ((((w1.setCell ⟨w.heap.size, 0, none⟩ (.int .i64 0)).setCell ⟨w.heap.size, 1, none⟩ (.string ⟨#[]⟩)).setCell ⟨w.heap.size, 2, none⟩ (.int .i64 0)).setCell ⟨w.heap.size, 3, none⟩ (.int .i64 0)) = F at *
    have y0 : F.cell? ⟨w.heap.size, 0, none⟩ = some (.int .i64 0) := qF.cell 0
    have y1 : F.cell? ⟨w.heap.size, 1, none⟩ = some (.string ⟨#[]⟩) := qF.cell 1
    have y2 : F.cell? ⟨w.heap.size, 2, none⟩ = some (.int .i64 0) := qF.cell 2
    have y3 : F.cell? ⟨w.heap.size, 3, none⟩ = some (.int .i64 0) := qF.cell 3
    refine bodyPost_ret (v := .tuple #[.agg zreq, .int .i64 (Wi.paE b 0 5)]) (by simp [results, Tryz.results12, go_sem, y0, y1, y2, y3]) rfl ?_
    exact ⟨by rw [HV.out, HE.out], bF⟩
def RetR (w : World) (b : List UInt8) (e : Ending) (w' : World) : Prop :=
  ∃ A n c, e = .returned (.tuple #[resV (Wi.prI b) (Wi.prS b) (Wi.prF b) (Wi.prZ b) A n c, .int .i64 (Wi.prE b)]) ∧ Own8 w' 5 A n c (Wi.prB b) ∧ (∀ g, blkOf A = some g → w.heap.size ≤ g) ∧ Below w.heap.size w w'
theorem pr_bad {b : List UInt8} (h : Wi.prE b ≠ 0) : resV (Wi.prI b) (Wi.prS b) (Wi.prF b) (Wi.prZ b) none 0 0 = .agg zres ∧ Wi.prB b = [] := by
  unfold Wi.prI Wi.prS Wi.prF Wi.prZ Wi.prB
  rw [if_neg h, if_neg h, if_neg h, if_neg h, if_neg h]
  exact ⟨rfl, rfl⟩
theorem pr_good {b : List UInt8} (h : Wi.prE b = 0) : (∀ A n c, resV (Wi.prI b) (Wi.prS b) (Wi.prF b) (Wi.prZ b) A n c = resV (Wi.rdV (Wi.ahead b) 1) (Wi.rdV (Wi.ahead b) 2) (Wi.rdV (Wi.ahead b) 3) (Wi.rdV (Wi.ahead b) 4) A n c) ∧ Wi.prB b = Wi.tail (Wi.ahead b) 6 := by
  unfold Wi.prI Wi.prS Wi.prF Wi.prZ Wi.prB
  rw [if_pos h, if_pos h, if_pos h, if_pos h, if_pos h]
  exact ⟨fun _ _ _ => rfl, rfl⟩

set_option maxRecDepth 100000 in
set_option maxHeartbeats 4000000 in
theorem prr_calls (A : Option Addr) (n c : Nat) (b : List UInt8) (w : World) (hn : n = b.length) (hc : n ≤ c) (hm : n ≤ 2000000) (hA : Byt w w.heap.size A b) :
    Calls Tryz.prog 11 #[.slice A n c] w (RetR w b) := by
  have s1 : (w.alloc (.cells zres 25)).heap.size = w.heap.size + 1 := World.size_alloc _ _
  have s2 : ((w.alloc (.cells zres 25)).alloc (.cells zres 25)).heap.size = w.heap.size + 1 + 1 := by rw [World.size_alloc, s1]
  have s2' : (((w.alloc (.cells zres 25)).alloc (.cells zres 25)).alloc (.cells #[.int .i64 0] 3)).heap.size = w.heap.size + 1 + 1 + 1 := by rw [World.size_alloc, s2]
  have n1 := Blk.new w 25 zres
  have n2 := Blk.new (w.alloc (.cells zres 25)) 25 zres
  rw [s1] at n2
  have n3 := Blk.new ((w.alloc (.cells zres 25)).alloc (.cells zres 25)) 3 #[.int .i64 0]
  rw [s2] at n3
  have r3 := ptrs_new (((w.alloc (.cells zres 25)).alloc (.cells zres 25)).alloc (.cells #[.int .i64 0] 3)) [(w.heap.size + 1, 0), (w.heap.size + 1 + 1, 0), (w.heap.size + 1, 2), (w.heap.size + 1, 3)] #[.pointer (some ⟨w.heap.size + 1, 0, none⟩), .pointer (some ⟨w.heap.size + 1 + 1, 0, none⟩), .pointer (some ⟨w.heap.size + 1, 2, none⟩), .pointer (some ⟨w.heap.size + 1, 3, none⟩)] 92 _ s2' rfl
  have bA : Below w.heap.size w ((((w.alloc (.cells zres 25)).alloc (.cells zres 25)).alloc (.cells #[.int .i64 0] 3)).alloc (.cells #[.pointer (some ⟨w.heap.size + 1, 0, none⟩), .pointer (some ⟨w.heap.size + 1 + 1, 0, none⟩), .pointer (some ⟨w.heap.size + 1, 2, none⟩), .pointer (some ⟨w.heap.size + 1, 3, none⟩)] 92)) := ((((Below.refl _ _).alloc (Nat.le_refl _) _).alloc (by rw [s1]; omega) _).alloc (by rw [s2]; omega) _).alloc (by rw [s2']; omega) _
  have s3 : ((((w.alloc (.cells zres 25)).alloc (.cells zres 25)).alloc (.cells #[.int .i64 0] 3)).alloc (.cells #[.pointer (some ⟨w.heap.size + 1, 0, none⟩), .pointer (some ⟨w.heap.size + 1 + 1, 0, none⟩), .pointer (some ⟨w.heap.size + 1, 2, none⟩), .pointer (some ⟨w.heap.size + 1, 3, none⟩)] 92)).heap.size = w.heap.size + 1 + 1 + 1 + 1 := by rw [World.size_alloc, s2']
  have hS : SR w w.heap.size (w.heap.size + 1) (w.heap.size + 1 + 1) (Wi.ahead b) 0 ((((w.alloc (.cells zres 25)).alloc (.cells zres 25)).alloc (.cells #[.int .i64 0] 3)).alloc (.cells #[.pointer (some ⟨w.heap.size + 1, 0, none⟩), .pointer (some ⟨w.heap.size + 1 + 1, 0, none⟩), .pointer (some ⟨w.heap.size + 1, 2, none⟩), .pointer (some ⟨w.heap.size + 1, 3, none⟩)] 92)) := ⟨(n2.alloc _).alloc _, n3.alloc _, ((n1.alloc _).alloc _).alloc _, bA⟩
  have hst := SR.stable (w0 := w) (w := ((((w.alloc (.cells zres 25)).alloc (.cells zres 25)).alloc (.cells #[.int .i64 0] 3)).alloc (.cells #[.pointer (some ⟨w.heap.size + 1, 0, none⟩), .pointer (some ⟨w.heap.size + 1 + 1, 0, none⟩), .pointer (some ⟨w.heap.size + 1, 2, none⟩), .pointer (some ⟨w.heap.size + 1, 3, none⟩)] 92))) (g0 := w.heap.size) (gq := w.heap.size + 1) (gs := w.heap.size + 1 + 1) (l := Wi.ahead b) (by omega) (by omega) (by omega) (by omega)
  have hpa := parse_calls A n c b 1 (some ⟨w.heap.size + 1 + 1 + 1, 0, none⟩) 4 4 _ (SR w w.heap.size (w.heap.size + 1) (w.heap.size + 1 + 1) (Wi.ahead b)) _ hn hc hm ((hA.below bA).more (by omega)) (by omega) rfl (by omega) r3 hS hst (SR.store (by omega) (by omega) (by omega) (by omega) (by omega)) (by
    intro k hk
    have hk3 : k = 0 ∨ k = 1 ∨ k = 2 ∨ k = 3 := by simp at hk; omega
    rcases hk3 with rfl | rfl | rfl | rfl
    · show w.heap.size + 1 < _; omega
    · show w.heap.size + 1 + 1 < _; omega
    · show w.heap.size + 1 < _; omega
    · show w.heap.size + 1 < _; omega)
  have HN := hide hn
  clear hn r3 n1 n2 n3 hst hS s1 s2 s2' hA
  go_enter Tryz.func11, Tryz.ntmps11
  go_wp2_with fail
  refine hpa.mono ?_
  intro e w1 hr
  have hr := par_two hr
  clear hpa
  rcases hr with ⟨h0, A1, n1, c1, rfl, o1, g1, S1⟩ | ⟨h0, rfl, k, S1⟩
  · obtain ⟨q1, qs, q0, bel1⟩ := S1
    have q1 : Blk w1 (w.heap.size + 1) 25 #[.int .i64 (Wi.rdV (Wi.ahead b) 1 : Int), .int .i64 0, .int .i64 (Wi.rdV (Wi.ahead b) 3 : Int), .int .i64 (Wi.rdV (Wi.ahead b) 4 : Int), .slice none 0 0] := q1
    have qs : Blk w1 (w.heap.size + 1 + 1) 3 #[.int .i64 (Wi.rdV (Wi.ahead b) 2 : Int)] := qs
    have HE0 := hide h0
    have HN1 : Hid (n1 = (Wi.tail (Wi.ahead b) 6).length) := o1.1
    have HQ0 : Hid (Wi.rok b = Wi.rr (Wi.rdV (Wi.ahead b) 1) (Wi.rdV (Wi.ahead b) 2) (Wi.rdV (Wi.ahead b) 3) (Wi.rdV (Wi.ahead b) 4) n1) := by rw [HN1.out]; exact rfl
    have hn1 : n1 ≤ 2000000 := by
      rw [HN1.out]
      unfold Wi.tail Wi.ahead
      rw [List.length_drop, List.length_take]
      have := HN.out
      omega
    have HPG := hide (@pr_good b)
    have HPB := hide (@pr_bad b)
    have hgA : ∀ q, blkOf A1 = some q → w.heap.size + 1 < q := fun q hq => by have := g1 q hq; omega
    have g1' : ∀ q, blkOf A1 = some q → w.heap.size ≤ q := fun q hq => by have := g1 q hq; omega
    clear g1 h0 s3 bA
    generalize Wi.rdV (Wi.ahead b) 1 = v1 at *
    generalize Wi.rdV (Wi.ahead b) 2 = v2 at *
    generalize Wi.rdV (Wi.ahead b) 3 = v3 at *
    generalize Wi.rdV (Wi.ahead b) 4 = v4 at *
    have cs : w1.cell? ⟨w.heap.size + 1 + 1, 0, none⟩ = some (.int .i64 (v2 : Int)) := qs.cell 0
    have c1' : w1.cell? ⟨w.heap.size + 1, 1, none⟩ = some (.int .i64 0) := q1.cell 1
    have z1 := q1.frozen 1
    have qq := q1.set_ 1 (.int .i64 (v2 : Int))
    have c4' : (w1.setCell ⟨w.heap.size + 1, 1, none⟩ (.int .i64 (v2 : Int))).cell? ⟨w.heap.size + 1, 4, none⟩ = some (.slice none 0 0) := qq.cell 4
    have z4' := qq.frozen 4
    have q2 : Blk ((w1.setCell ⟨w.heap.size + 1, 1, none⟩ (.int .i64 (v2 : Int))).setCell ⟨w.heap.size + 1, 4, none⟩ (.slice A1 n1 c1)) (w.heap.size + 1) 25 #[.int .i64 (v1 : Int), .int .i64 (v2 : Int), .int .i64 (v3 : Int), .int .i64 (v4 : Int), .slice A1 n1 c1] := by simpa using qq.set_ 4 (.slice A1 n1 c1)
    have o2 : Own8 ((w1.setCell ⟨w.heap.size + 1, 1, none⟩ (.int .i64 (v2 : Int))).setCell ⟨w.heap.size + 1, 4, none⟩ (.slice A1 n1 c1)) 5 A1 n1 c1 (Wi.tail (Wi.ahead b) 6) := (chg_one (w1.setCell ⟨w.heap.size + 1, 1, none⟩ (.int .i64 (v2 : Int))) (w.heap.size + 1) 4 _).own ((chg_one w1 (w.heap.size + 1) 1 _).own o1 (fun q hq e => by have : q = _ := e; have := hgA q hq; omega)) (fun q hq e => by have : q = _ := e; have := hgA q hq; omega)
    have q02 : Blk ((w1.setCell ⟨w.heap.size + 1, 1, none⟩ (.int .i64 (v2 : Int))).setCell ⟨w.heap.size + 1, 4, none⟩ (.slice A1 n1 c1)) w.heap.size 25 zres := (q0.far (by show _ ≠ _ + 1; omega) _).far (by show _ ≠ _ + 1; omega) _
    have bel2 : Below w.heap.size w ((w1.setCell ⟨w.heap.size + 1, 1, none⟩ (.int .i64 (v2 : Int))).setCell ⟨w.heap.size + 1, 4, none⟩ (.slice A1 n1 c1)) := (bel1.setCell (p := ⟨w.heap.size + 1, 1, none⟩) (by show _ ≤ _ + 1; omega) _).setCell (p := ⟨w.heap.size + 1, 4, none⟩) (by show _ ≤ _ + 1; omega) _
    clear o1 q1 q0 bel1 qq qs hgA
    have e0 : ((w1.setCell ⟨w.heap.size + 1, 1, none⟩ (.int .i64 (v2 : Int))).setCell ⟨w.heap.size + 1, 4, none⟩ (.slice A1 n1 c1)).cell? ⟨w.heap.size + 1, 0, none⟩ = some (.int .i64 (v1 : Int)) := q2.cell 0
    have e1 : ((w1.setCell ⟨w.heap.size + 1, 1, none⟩ (.int .i64 (v2 : Int))).setCell ⟨w.heap.size + 1, 4, none⟩ (.slice A1 n1 c1)).cell? ⟨w.heap.size + 1, 1, none⟩ = some (.int .i64 (v2 : Int)) := q2.cell 1
    have e2 : ((w1.setCell ⟨w.heap.size + 1, 1, none⟩ (.int .i64 (v2 : Int))).setCell ⟨w.heap.size + 1, 4, none⟩ (.slice A1 n1 c1)).cell? ⟨w.heap.size + 1, 2, none⟩ = some (.int .i64 (v3 : Int)) := q2.cell 2
    have e3 : ((w1.setCell ⟨w.heap.size + 1, 1, none⟩ (.int .i64 (v2 : Int))).setCell ⟨w.heap.size + 1, 4, none⟩ (.slice A1 n1 c1)).cell? ⟨w.heap.size + 1, 3, none⟩ = some (.int .i64 (v4 : Int)) := q2.cell 3
    have e4 : ((w1.setCell ⟨w.heap.size + 1, 1, none⟩ (.int .i64 (v2 : Int))).setCell ⟨w.heap.size + 1, 4, none⟩ (.slice A1 n1 c1)).cell? ⟨w.heap.size + 1, 4, none⟩ = some (.slice A1 n1 c1) := q2.cell 4
    have hrq := rr_calls v1 v2 v3 v4 A1 n1 c1 ((w1.setCell ⟨w.heap.size + 1, 1, none⟩ (.int .i64 (v2 : Int))).setCell ⟨w.heap.size + 1, 4, none⟩ (.slice A1 n1 c1)) (by omega)
    rw [← HQ0.out] at hrq
    go_wp2_with fail
    clear c4' z4' c1' z1 cs
    generalize ((w1.setCell ⟨w.heap.size + 1, 1, none⟩ (.int .i64 (v2 : Int))).setCell ⟨w.heap.size + 1, 4, none⟩ (.slice A1 n1 c1)) = W2 at *
    refine hrq.mono ?_
    rintro e w3 ⟨rfl, b3⟩
    have q3 := q2.below b3 q2.lt
    have o3 := o2.below b3 o2.lt
    have q03 := q02.below b3 q02.lt
    have bel3 := bnext bel2 b3
    have z0 := q03.frozen 0
    have z1 := q03.frozen 1
    have z2 := q03.frozen 2
    have z3 := q03.frozen 3
    have z4 := q03.frozen 4
    have k0 : w3.cell? ⟨w.heap.size, 0, none⟩ = some (.int .i64 0) := q03.cell 0
    have k1 : w3.cell? ⟨w.heap.size, 1, none⟩ = some (.int .i64 0) := q03.cell 1
    have k2 : w3.cell? ⟨w.heap.size, 2, none⟩ = some (.int .i64 0) := q03.cell 2
    have k3 : w3.cell? ⟨w.heap.size, 3, none⟩ = some (.int .i64 0) := q03.cell 3
    have k4 : w3.cell? ⟨w.heap.size, 4, none⟩ = some (.slice none 0 0) := q03.cell 4
    clear hrq e0 e1 e2 e3 e4 q2 q02 b3 bel2 o2
    cases hq : Wi.rok b
    · have HE : Hid (Wi.prE b = 201) := by unfold Wi.prE; rw [HE0.out, if_pos rfl, hq]; exact rfl
      obtain ⟨HV, HB⟩ := HPB.out (by rw [HE.out]; decide)
      obtain ⟨qF, bF⟩ := set5 q03 bel3 (Nat.le_refl _) (.int .i64 0) (.int .i64 0) (.int .i64 0) (.int .i64 0) (.slice none 0 0)
      go_wp2
      generalize (((((w3.setCell ⟨w.heap.size, 0, none⟩ (.int .i64 0)).setCell ⟨w.heap.size, 1, none⟩ (.int .i64 0)).setCell ⟨w.heap.size, 2, none⟩ (.int .i64 0)).setCell ⟨w.heap.size, 3, none⟩ (.int .i64 0)).setCell ⟨w.heap.size, 4, none⟩ (.slice none 0 0)) = F at *
      have y0 : F.cell? ⟨w.heap.size, 0, none⟩ = some (.int .i64 0) := qF.cell 0
      have y1 : F.cell? ⟨w.heap.size, 1, none⟩ = some (.int .i64 0) := qF.cell 1
      have y2 : F.cell? ⟨w.heap.size, 2, none⟩ = some (.int .i64 0) := qF.cell 2
      have y3 : F.cell? ⟨w.heap.size, 3, none⟩ = some (.int .i64 0) := qF.cell 3
      have y4 : F.cell? ⟨w.heap.size, 4, none⟩ = some (.slice none 0 0) := qF.cell 4
      refine bodyPost_ret (v := .tuple #[.agg zres, .int .i64 201]) (by simp [results, Tryz.results11, go_sem, y0, y1, y2, y3, y4]) rfl ?_
      exact ⟨none, 0, 0, by rw [HV, HE.out], by rw [HB]; exact Own8.nil _ _, by simp [blkOf], bF⟩
    · have HE : Hid (Wi.prE b = 0) := by unfold Wi.prE; rw [HE0.out, if_pos rfl, hq]; exact rfl
      obtain ⟨HV, HB⟩ := HPG.out HE.out
      have e0 : w3.cell? ⟨w.heap.size + 1, 0, none⟩ = some (.int .i64 (v1 : Int)) := q3.cell 0
      have e1 : w3.cell? ⟨w.heap.size + 1, 1, none⟩ = some (.int .i64 (v2 : Int)) := q3.cell 1
      have e2 : w3.cell? ⟨w.heap.size + 1, 2, none⟩ = some (.int .i64 (v3 : Int)) := q3.cell 2
      have e3 : w3.cell? ⟨w.heap.size + 1, 3, none⟩ = some (.int .i64 (v4 : Int)) := q3.cell 3
      have e4 : w3.cell? ⟨w.heap.size + 1, 4, none⟩ = some (.slice A1 n1 c1) := q3.cell 4
      obtain ⟨qF, bF⟩ := set5 q03 bel3 (Nat.le_refl _) (.int .i64 (v1 : Int)) (.int .i64 (v2 : Int)) (.int .i64 (v3 : Int)) (.int .i64 (v4 : Int)) (.slice A1 n1 c1)
      have oF : Own8 (((((w3.setCell ⟨w.heap.size, 0, none⟩ (.int .i64 (v1 : Int))).setCell ⟨w.heap.size, 1, none⟩ (.int .i64 (v2 : Int))).setCell ⟨w.heap.size, 2, none⟩ (.int .i64 (v3 : Int))).setCell ⟨w.heap.size, 3, none⟩ (.int .i64 (v4 : Int))).setCell ⟨w.heap.size, 4, none⟩ (.slice A1 n1 c1)) 5 A1 n1 c1 (Wi.tail (Wi.ahead b) 6) := by
        have hh : ∀ q, blkOf A1 = some q → ¬ One w.heap.size q := fun q hq e => own_blk_ne o3.2 q03 (by decide) (by rw [ownBlock_slice, hq, show q = w.heap.size from e])
        exact (chg_one _ w.heap.size 4 _).own ((chg_one _ w.heap.size 3 _).own ((chg_one _ w.heap.size 2 _).own ((chg_one _ w.heap.size 1 _).own ((chg_one _ w.heap.size 0 _).own o3 hh) hh) hh) hh) hh
      go_wp2
      generalize (((((w3.setCell ⟨w.heap.size, 0, none⟩ (.int .i64 (v1 : Int))).setCell ⟨w.heap.size, 1, none⟩ (.int .i64 (v2 : Int))).setCell ⟨w.heap.size, 2, none⟩ (.int .i64 (v3 : Int))).setCell ⟨w.heap.size, 3, none⟩ (.int .i64 (v4 : Int))).setCell ⟨w.heap.size, 4, none⟩ (.slice A1 n1 c1)) = F at *
      have y0 : F.cell? ⟨w.heap.size, 0, none⟩ = some (.int .i64 (v1 : Int)) := qF.cell 0
      have y1 : F.cell? ⟨w.heap.size, 1, none⟩ = some (.int .i64 (v2 : Int)) := qF.cell 1
      have y2 : F.cell? ⟨w.heap.size, 2, none⟩ = some (.int .i64 (v3 : Int)) := qF.cell 2
      have y3 : F.cell? ⟨w.heap.size, 3, none⟩ = some (.int .i64 (v4 : Int)) := qF.cell 3
      have y4 : F.cell? ⟨w.heap.size, 4, none⟩ = some (.slice A1 n1 c1) := qF.cell 4
      refine bodyPost_ret (v := .tuple #[resV v1 v2 v3 v4 A1 n1 c1, .int .i64 0]) (by simp [results, Tryz.results11, go_sem, y0, y1, y2, y3, y4]) rfl ?_
      exact ⟨A1, n1, c1, by rw [HV, HE.out], by rw [HB]; exact oF, g1', bF⟩
  · obtain ⟨_, _, q0, bel1⟩ := S1
    have HE : Hid (Wi.prE b = Wi.paE b 1 6) := if_neg h0
    have hE : Wi.prE b ≠ 0 := by rw [HE.out]; exact h0
    have HV := hide (pr_bad hE)
    have en : (Wi.paE b 1 6 != 0) = true := by simpa using h0
    have z0 := q0.frozen 0
    have z1 := q0.frozen 1
    have z2 := q0.frozen 2
    have z3 := q0.frozen 3
    have z4 := q0.frozen 4
    have k0 : w1.cell? ⟨w.heap.size, 0, none⟩ = some (.int .i64 0) := q0.cell 0
    have k1 : w1.cell? ⟨w.heap.size, 1, none⟩ = some (.int .i64 0) := q0.cell 1
    have k2 : w1.cell? ⟨w.heap.size, 2, none⟩ = some (.int .i64 0) := q0.cell 2
    have k3 : w1.cell? ⟨w.heap.size, 3, none⟩ = some (.int .i64 0) := q0.cell 3
    have k4 : w1.cell? ⟨w.heap.size, 4, none⟩ = some (.slice none 0 0) := q0.cell 4
    clear h0 hE
    obtain ⟨qF, bF⟩ := set5 q0 bel1 (Nat.le_refl _) (.int .i64 0) (.int .i64 0) (.int .i64 0) (.int .i64 0) (.slice none 0 0)
    go_wp2
    generalize (((((w1.setCell ⟨w.heap.size, 0, none⟩ (.int .i64 0)).setCell ⟨w.heap.size, 1, none⟩ (.int .i64 0)).setCell ⟨w.heap.size, 2, none⟩ (.int .i64 0)).setCell ⟨w.heap.size, 3, none⟩ (.int .i64 0)).setCell ⟨w.heap.size, 4, none⟩ (.slice none 0 0)) = F at *
    have y0 : F.cell? ⟨w.heap.size, 0, none⟩ = some (.int .i64 0) := qF.cell 0
    have y1 : F.cell? ⟨w.heap.size, 1, none⟩ = some (.int .i64 0) := qF.cell 1
    have y2 : F.cell? ⟨w.heap.size, 2, none⟩ = some (.int .i64 0) := qF.cell 2
    have y3 : F.cell? ⟨w.heap.size, 3, none⟩ = some (.int .i64 0) := qF.cell 3
    have y4 : F.cell? ⟨w.heap.size, 4, none⟩ = some (.slice none 0 0) := qF.cell 4
    refine bodyPost_ret (v := .tuple #[.agg zres, .int .i64 (Wi.paE b 1 6)]) (by simp [results, Tryz.results11, go_sem, y0, y1, y2, y3, y4]) rfl ?_
    exact ⟨none, 0, 0, by rw [HV.out.1, HE.out], by rw [HV.out.2]; exact Own8.nil _ _, by simp [blkOf], bF⟩
end Go.Proofs.YtbfhpgpceakeiaaGreatDoor.C20
namespace Go.Proofs.YtbfhpgpceakeiaaGreatDoor.C20
open Go.RowKit Kin

theorem codes_cons (v : Nat) (vs : List Nat) : Wi.codes (v :: vs) = Gol.codeB v ++ Wi.codes vs := by simp [Wi.codes]
theorem codes_app (us vs : List Nat) : Wi.codes (us ++ vs) = Wi.codes us ++ Wi.codes vs := by simp [Wi.codes]
/-- the bits of what is ahead of the sum -/
theorem row_body (vs : List Nat) (t : List UInt8) : ∃ E, Bit.row (Wi.body vs t) = Wi.codes vs ++ E := by
  obtain ⟨E, hE⟩ := row_pre (Wi.codes vs)
  exact ⟨E ++ Bit.row t, by unfold Wi.body; rw [row_append, hE, List.append_assoc]⟩
/-- the numbers are read again -/
theorem rd_body {vs : List Nat} (hv : ∀ v ∈ vs, v ≤ 4294967294) (t : List UInt8) : ∀ i, i ≤ vs.length → Wi.rdK (Wi.body vs t) i = (Wi.codes (vs.take i)).length ∧ ∀ (h : i < vs.length), Wi.rdV (Wi.body vs t) i = vs[i] ∧ Wi.rdE (Wi.body vs t) i = 0 := by
  obtain ⟨E, hE⟩ := row_body vs t
  have key : ∀ i (h : i < vs.length), Wi.rdK (Wi.body vs t) i = (Wi.codes (vs.take i)).length → bitsOf (Wi.body vs t) (Wi.rdK (Wi.body vs t) i) = Gol.codeB vs[i] ++ (Wi.codes (vs.drop (i + 1)) ++ E) := by
    intro i h hk
    show (Bit.row (Wi.body vs t)).drop _ = _
    have e : Wi.codes vs = Wi.codes (vs.take i) ++ (Gol.codeB vs[i] ++ Wi.codes (vs.drop (i + 1))) := by
      rw [← codes_cons, ← codes_app, ← List.drop_eq_getElem_cons h, List.take_append_drop]
    rw [hE, hk, e, List.append_assoc, List.drop_left, List.append_assoc]
  intro i
  induction i with
  | zero =>
    intro _
    refine ⟨rfl, fun h => ?_⟩
    have hb := key 0 h rfl
    unfold Wi.rdV Wi.rdE
    rw [hb]
    exact ⟨Gol.gV_code (hv _ (List.getElem_mem h)) _, Gol.gE_code (hv _ (List.getElem_mem h)) _⟩
  | succ i ih =>
    intro hi
    obtain ⟨h1, _⟩ := ih (by omega)
    have hb := key i (by omega) h1
    have hk : Wi.rdK (Wi.body vs t) (i + 1) = (Wi.codes (vs.take (i + 1))).length := by
      show Wi.rdK (Wi.body vs t) i + Gol.gK _ = _
      have hvi := hv _ (List.getElem_mem (show i < vs.length by omega))
      rw [hb, Gol.gK_code hvi, h1, take_codes (by omega), List.length_append, Gol.length_codeB hvi]
    refine ⟨hk, fun h => ?_⟩
    have hb := key (i + 1) h hk
    unfold Wi.rdV Wi.rdE
    rw [hb]
    exact ⟨Gol.gV_code (hv _ (List.getElem_mem h)) _, Gol.gE_code (hv _ (List.getElem_mem h)) _⟩
/-- are m numbers, and the fill behind them, there? -/
def opOk (l : List UInt8) (m : Nat) : Bool := Wi.numsOk l m && Bit.restB (Bit.row l) (Wi.rdK l m)
theorem paOk_eq (l : List UInt8) (kind m : Nat) : Wi.paOk l kind m = (opOk l m && (Wi.rdV l 0 == kind && ((Wi.tail l m).length == Wi.rdV l (m - 1)))) := by
  unfold Wi.paOk opOk Wi.tail
  cases Wi.numsOk l m <;> cases Bit.restB (Bit.row l) (Wi.rdK l m) <;> simp
theorem op_body {vs : List Nat} (hv : ∀ v ∈ vs, v ≤ 4294967294) (t : List UInt8) : opOk (Wi.body vs t) vs.length = true ∧ Wi.tail (Wi.body vs t) vs.length = t := by
  have hk := (rd_body hv t vs.length (Nat.le_refl _)).1
  rw [List.take_length] at hk
  refine ⟨?_, ?_⟩
  · unfold opOk
    rw [hk]
    rw [show Bit.restB (Bit.row (Wi.body vs t)) (Wi.codes vs).length = true from restB_app _ _, Bool.and_true]
    unfold Wi.numsOk
    rw [List.all_eq_true]
    intro i hi
    have hi := List.mem_range.1 hi
    rw [((rd_body hv t i (by omega)).2 hi).2]
    rfl
  · unfold Wi.tail
    rw [hk]
    exact List.drop_left' (Bit.length_pack _)
/-- what is read was written -/
def rdVs (l : List UInt8) (m : Nat) : List Nat := (List.range m).map (Wi.rdV l)
theorem rdVs_succ (l : List UInt8) (m : Nat) : rdVs l (m + 1) = rdVs l m ++ [Wi.rdV l m] := by unfold rdVs; rw [List.range_succ, List.map_append]; rfl
theorem rdVs_le (l : List UInt8) (m : Nat) : ∀ v ∈ rdVs l m, v ≤ 4294967294 := by
  intro v hv
  unfold rdVs at hv
  rw [List.mem_map] at hv
  obtain ⟨i, _, rfl⟩ := hv
  exact gV_le _
theorem nums_of {l : List UInt8} : ∀ {m : Nat}, Wi.numsOk l m = true → Bit.row l = Wi.codes (rdVs l m) ++ bitsOf l (Wi.rdK l m) ∧ Wi.rdK l m = (Wi.codes (rdVs l m)).length
  | 0, _ => ⟨rfl, rfl⟩
  | m + 1, h => by
    have h0 : Wi.numsOk l m = true ∧ Wi.rdE l m = 0 := by
      unfold Wi.numsOk at h ⊢
      rw [List.range_succ, List.all_append, Bool.and_eq_true] at h
      exact ⟨h.1, by simpa using h.2⟩
    obtain ⟨h1, h2⟩ := nums_of h0.1
    have hE : Gol.gE (bitsOf l (Wi.rdK l m)) = 0 := h0.2
    obtain ⟨c1, c2⟩ := code_of hE
    have hd : bitsOf l (Wi.rdK l (m + 1)) = (bitsOf l (Wi.rdK l m)).drop (Gol.gK (bitsOf l (Wi.rdK l m))) := by
      show (Bit.row l).drop (Wi.rdK l m + _) = _
      rw [List.drop_drop]
    refine ⟨?_, ?_⟩
    · rw [rdVs_succ, Wi.codes_snoc, List.append_assoc, hd]
      show _ = _ ++ (Gol.codeB (Gol.gV (bitsOf l (Wi.rdK l m))) ++ _)
      rw [← c1]
      exact h1
    · show Wi.rdK l m + Gol.gK (bitsOf l (Wi.rdK l m)) = _
      rw [rdVs_succ, Wi.codes_snoc, List.length_append, ← h2]
      show _ = _ + (Gol.codeB (Gol.gV (bitsOf l (Wi.rdK l m)))).length
      rw [Gol.length_codeB (gV_le _), c2]
theorem op_of {l : List UInt8} {m : Nat} (h : opOk l m = true) : l = Wi.body (rdVs l m) (Wi.tail l m) := by
  unfold opOk at h
  rw [Bool.and_eq_true] at h
  obtain ⟨hn, hr⟩ := h
  obtain ⟨h1, h2⟩ := nums_of hn
  have hle : Wi.rdK l m ≤ 8 * l.length := by
    have := congrArg List.length h1
    rw [Bit.length_row, List.length_append] at this
    omega
  generalize hC : Wi.codes (rdVs l m) = C at *
  obtain ⟨q, hq⟩ : ∃ q, q = (Wi.rdK l m + 7) / 8 := ⟨_, rfl⟩
  have hql : q ≤ l.length := by omega
  have ht : l.take q = Bit.pack C := by
    have e : Bit.row (l.take q) = Bit.fill C := by
      have hrow : Bit.row l = Bit.row (l.take q) ++ Bit.row (l.drop q) := by rw [← row_append, List.take_append_drop]
      have hl1 : (Bit.row (l.take q)).length = 8 * q := by rw [Bit.length_row, List.length_take]; omega
      have e1 : Bit.row (l.take q) = (Bit.row l).take (8 * q) := by rw [hrow, List.take_left' hl1]
      rw [e1]
      apply List.ext_getElem?
      intro i
      by_cases hi : i < 8 * q
      · rw [List.getElem?_take_of_lt hi]
        have hi2 : i < (Bit.row l).length := by rw [Bit.length_row]; omega
        by_cases hi3 : i < C.length
        · rw [h1, List.getElem?_append_left hi3]
          unfold Bit.fill
          rw [List.getElem?_append_left hi3]
        · unfold Bit.fill
          rw [List.getElem?_append_right (by omega), List.getElem?_replicate, if_pos (by omega), List.getElem?_eq_getElem hi2]
          congr 1
          exact restB_at hr (by omega) (by omega) hi2
      · rw [List.getElem?_eq_none (by rw [List.length_take]; omega), List.getElem?_eq_none (by rw [Bit.length_fill]; omega)]
    rw [← Bit.pack_row (l.take q), e, Bit.pack_fill]
  unfold Wi.body Wi.tail
  rw [hC, ← ht, ← hq, List.take_append_drop]
/-- the sum -/
theorem of4_four (n : Nat) (h : n < 4294967296) : Wi.of4 (Wi.four n) = n := by
  simp [Wi.of4, Wi.four, List.getD]
  omega
theorem four_of4 {l : List UInt8} (h : l.length = 4) : Wi.four (Wi.of4 l) = l := by
  rcases l with _ | ⟨a, _ | ⟨b, _ | ⟨c, _ | ⟨d, _ | ⟨e, l⟩⟩⟩⟩⟩ <;> simp at h
  have ha := a.toNat_lt
  have hb := b.toNat_lt
  have hc := c.toNat_lt
  have hd := d.toNat_lt
  have e0 : Wi.of4 [a, b, c, d] = ((a.toNat * 256 + b.toNat) * 256 + c.toNat) * 256 + d.toNat := rfl
  rw [e0]
  unfold Wi.four
  congr 1
  · apply UInt8.toNat_inj.1; rw [Wi.u8m]; omega
  congr 1
  · apply UInt8.toNat_inj.1; rw [Wi.u8m]; omega
  congr 1
  · apply UInt8.toNat_inj.1; rw [Wi.u8m]; omega
  congr 1
  · apply UInt8.toNat_inj.1; rw [Wi.u8m]; omega
theorem wire_parts (vs : List Nat) (t : List UInt8) : 4 ≤ (Wi.wire vs t).length ∧ Wi.ahead (Wi.wire vs t) = Wi.body vs t ∧ Wi.told (Wi.wire vs t) = Crc.sum (Wi.body vs t) := by
  have hl : (Wi.wire vs t).length = (Wi.body vs t).length + 4 := by unfold Wi.wire; rw [List.length_append, Wi.length_four]
  refine ⟨by omega, ?_, ?_⟩
  · unfold Wi.ahead
    rw [hl, Nat.add_sub_cancel]
    unfold Wi.wire
    exact List.take_left' rfl
  · unfold Wi.told
    rw [hl, Nat.add_sub_cancel]
    unfold Wi.wire
    rw [List.drop_left' rfl]
    exact of4_four _ (Crc.more_lt 0 _)
theorem wire_of {b : List UInt8} {m : Nat} (h4 : 4 ≤ b.length) (hs : Crc.sum (Wi.ahead b) = Wi.told b) (ho : opOk (Wi.ahead b) m = true) : b = Wi.wire (rdVs (Wi.ahead b) m) (Wi.tail (Wi.ahead b) m) := by
  have e := op_of ho
  unfold Wi.wire
  rw [← e, hs]
  unfold Wi.told
  rw [four_of4 (by rw [List.length_drop]; omega)]
  unfold Wi.ahead
  rw [List.take_append_drop]
theorem vs_at {vs : List Nat} {t : List UInt8} (hv : ∀ v ∈ vs, v ≤ 4294967294) {i : Nat} {x : Nat} (h : vs[i]? = some x) : Wi.rdV (Wi.body vs t) i = x := by
  obtain ⟨h1, h2⟩ := List.getElem?_eq_some_iff.1 h
  rw [((rd_body hv t i (by omega)).2 h1).1, h2]
/-- parse's error of what was written -/
theorem paE_wire {vs : List Nat} {t : List UInt8} (hv : ∀ v ∈ vs, v ≤ 4294967294) (kind : Nat) (h0 : vs[0]? = some kind) (h1 : vs[vs.length - 1]? = some t.length) : Wi.paE (Wi.wire vs t) kind vs.length = 0 := by
  obtain ⟨p1, p2, p3⟩ := wire_parts vs t
  obtain ⟨o1, o2⟩ := op_body hv t
  unfold Wi.paE
  rw [if_neg (by omega), p2, p3, if_neg (by simp), paOk_eq, o1, o2, vs_at hv h0, vs_at hv h1]
  simp
theorem paE_of {b : List UInt8} {kind m : Nat} (h : Wi.paE b kind m = 0) : 4 ≤ b.length ∧ Crc.sum (Wi.ahead b) = Wi.told b ∧ opOk (Wi.ahead b) m = true ∧ Wi.rdV (Wi.ahead b) 0 = kind ∧ (Wi.tail (Wi.ahead b) m).length = Wi.rdV (Wi.ahead b) (m - 1) := by
  unfold Wi.paE at h
  split at h
  · omega
  · split at h
    · omega
    · split at h
      · rename_i h1 h2 h3
        rw [paOk_eq, Bool.and_eq_true, Bool.and_eq_true] at h3
        refine ⟨by omega, by simpa using h2, h3.1, by simpa using h3.2.1, by simpa using h3.2.2⟩
      · omega
/-- a request's bytes are parsed -/
theorem pq_back {id : Int} {p : ByteArray} {fr tto : Int} (h : Wi.rq id p fr tto = true) : Wi.pqE (rqL id p fr tto) = 0 ∧ Wi.pqI (rqL id p fr tto) = id ∧ Wi.pqP (rqL id p fr tto) = p ∧ Wi.pqF (rqL id p fr tto) = fr ∧ Wi.pqT (rqL id p fr tto) = tto := by
  obtain ⟨⟨i1, i2⟩, ⟨p1, p2⟩, ⟨f1, f2⟩, t1, t2⟩ := rq_of h
  have hL : rqL id p fr tto = Wi.wire (rqN id p fr tto) p.data.toList := by unfold rqL; rw [if_pos h]
  have hv : ∀ v ∈ rqN id p fr tto, v ≤ 4294967294 := by
    unfold rqN
    intro v hv
    simp at hv
    rcases hv with rfl | rfl | rfl | rfl | rfl <;> omega
  rw [hL]
  have hps : p.size = p.data.toList.length := rfl
  have e5 : Wi.paE (Wi.wire (rqN id p fr tto) p.data.toList) 0 5 = 0 := paE_wire hv 0 rfl (by rw [← hps]; exact rfl)
  obtain ⟨w1, w2, w3⟩ := wire_parts (rqN id p fr tto) p.data.toList
  have o2 : Wi.tail (Wi.body (rqN id p fr tto) p.data.toList) 5 = p.data.toList := (op_body hv p.data.toList).2
  have v1 : Wi.rdV (Wi.body (rqN id p fr tto) p.data.toList) 1 = id.toNat := vs_at hv rfl
  have v2 : Wi.rdV (Wi.body (rqN id p fr tto) p.data.toList) 2 = fr.toNat := vs_at hv rfl
  have v3 : Wi.rdV (Wi.body (rqN id p fr tto) p.data.toList) 3 = (tto + 1).toNat := vs_at hv rfl
  have hp : str p.data.toList = p := rfl
  have a1 : ((id.toNat : Nat) : Int) = id := by omega
  have a2 : ((fr.toNat : Nat) : Int) = fr := by omega
  have a3 : (((tto + 1).toNat : Nat) : Int) - 1 = tto := by omega
  have hq : Wi.qok (Wi.wire (rqN id p fr tto) p.data.toList) = true := by
    unfold Wi.qok
    rw [w2, v1, v2, v3, o2, hp, a1, a2, a3, h]
  have hE : Wi.pqE (Wi.wire (rqN id p fr tto) p.data.toList) = 0 := by
    unfold Wi.pqE
    rw [if_pos e5, if_pos hq]
  refine ⟨hE, ?_, ?_, ?_, ?_⟩
  · unfold Wi.pqI; rw [if_pos hE, w2, v1, a1]
  · unfold Wi.pqP; rw [if_pos hE, w2, o2, hp]
  · unfold Wi.pqF; rw [if_pos hE, w2, v2, a2]
  · unfold Wi.pqT; rw [if_pos hE, w2, v3, a3]
/-- a response's bytes are parsed -/
theorem pr_back {id st fr sz : Int} {t : List UInt8} (h : Wi.rr id st fr sz t.length = true) : Wi.prE (rrL id st fr sz t) = 0 ∧ Wi.prI (rrL id st fr sz t) = id ∧ Wi.prS (rrL id st fr sz t) = st ∧ Wi.prF (rrL id st fr sz t) = fr ∧ Wi.prZ (rrL id st fr sz t) = sz ∧ Wi.prB (rrL id st fr sz t) = t := by
  obtain ⟨⟨i1, i2⟩, ⟨p1, p2⟩, ⟨f1, f2⟩, ⟨t1, t2⟩, n1⟩ := rr_of h
  have hL : rrL id st fr sz t = Wi.wire (rrN id st fr sz t.length) t := by unfold rrL; rw [if_pos h]
  have hv : ∀ v ∈ rrN id st fr sz t.length, v ≤ 4294967294 := by
    unfold rrN
    intro v hv
    simp at hv
    rcases hv with rfl | rfl | rfl | rfl | rfl | rfl <;> omega
  rw [hL]
  have e5 : Wi.paE (Wi.wire (rrN id st fr sz t.length) t) 1 6 = 0 := paE_wire hv 1 rfl rfl
  obtain ⟨w1, w2, w3⟩ := wire_parts (rrN id st fr sz t.length) t
  have o2 : Wi.tail (Wi.body (rrN id st fr sz t.length) t) 6 = t := (op_body hv t).2
  have v1 : Wi.rdV (Wi.body (rrN id st fr sz t.length) t) 1 = id.toNat := vs_at hv rfl
  have v2 : Wi.rdV (Wi.body (rrN id st fr sz t.length) t) 2 = st.toNat := vs_at hv rfl
  have v3 : Wi.rdV (Wi.body (rrN id st fr sz t.length) t) 3 = fr.toNat := vs_at hv rfl
  have v4 : Wi.rdV (Wi.body (rrN id st fr sz t.length) t) 4 = sz.toNat := vs_at hv rfl
  have a1 : ((id.toNat : Nat) : Int) = id := by omega
  have a2 : ((st.toNat : Nat) : Int) = st := by omega
  have a3 : ((fr.toNat : Nat) : Int) = fr := by omega
  have a4 : ((sz.toNat : Nat) : Int) = sz := by omega
  have hq : Wi.rok (Wi.wire (rrN id st fr sz t.length) t) = true := by
    unfold Wi.rok
    rw [w2, v1, v2, v3, v4, o2, a1, a2, a3, a4, h]
  have hE : Wi.prE (Wi.wire (rrN id st fr sz t.length) t) = 0 := by
    unfold Wi.prE
    rw [if_pos e5, if_pos hq]
  refine ⟨hE, ?_, ?_, ?_, ?_, ?_⟩
  · unfold Wi.prI; rw [if_pos hE, w2, v1, a1]
  · unfold Wi.prS; rw [if_pos hE, w2, v2, a2]
  · unfold Wi.prF; rw [if_pos hE, w2, v3, a3]
  · unfold Wi.prZ; rw [if_pos hE, w2, v4, a4]
  · unfold Wi.prB; rw [if_pos hE, w2, o2]
theorem pqE_zero {b : List UInt8} (h : Wi.pqE b = 0) : Wi.paE b 0 5 = 0 ∧ Wi.qok b = true := by
  unfold Wi.pqE at h
  by_cases h1 : Wi.paE b 0 5 = 0
  · rw [if_pos h1] at h
    cases h2 : Wi.qok b
    · rw [h2] at h; exact absurd h (by decide)
    · exact ⟨h1, rfl⟩
  · rw [if_neg h1] at h; exact absurd h h1
theorem prE_zero {b : List UInt8} (h : Wi.prE b = 0) : Wi.paE b 1 6 = 0 ∧ Wi.rok b = true := by
  unfold Wi.prE at h
  by_cases h1 : Wi.paE b 1 6 = 0
  · rw [if_pos h1] at h
    cases h2 : Wi.rok b
    · rw [h2] at h; exact absurd h (by decide)
    · exact ⟨h1, rfl⟩
  · rw [if_neg h1] at h; exact absurd h h1
/-- what is parsed has these bytes, and is right -/
theorem pq_of {b : List UInt8} (h : Wi.pqE b = 0) : Wi.rq (Wi.pqI b) (Wi.pqP b) (Wi.pqF b) (Wi.pqT b) = true ∧ rqL (Wi.pqI b) (Wi.pqP b) (Wi.pqF b) (Wi.pqT b) = b := by
  have hI : Wi.pqI b = (Wi.rdV (Wi.ahead b) 1 : Int) := if_pos h
  have hP : Wi.pqP b = str (Wi.tail (Wi.ahead b) 5) := if_pos h
  have hF : Wi.pqF b = (Wi.rdV (Wi.ahead b) 2 : Int) := if_pos h
  have hT : Wi.pqT b = (Wi.rdV (Wi.ahead b) 3 : Int) - 1 := if_pos h
  have h5 := pqE_zero h
  obtain ⟨h4, hs, ho, v0, hl⟩ := paE_of h5.1
  have hr : Wi.rq (Wi.pqI b) (Wi.pqP b) (Wi.pqF b) (Wi.pqT b) = true := by rw [hI, hP, hF, hT]; exact h5.2
  refine ⟨hr, ?_⟩
  have hw := wire_of h4 hs ho
  have e : rqN (Wi.pqI b) (Wi.pqP b) (Wi.pqF b) (Wi.pqT b) = rdVs (Wi.ahead b) 5 := by
    unfold rqN
    rw [hI, hP, hF, hT, Int.toNat_natCast, Int.toNat_natCast, show ((Wi.rdV (Wi.ahead b) 3 : Int) - 1 + 1).toNat = Wi.rdV (Wi.ahead b) 3 by omega, show (str (Wi.tail (Wi.ahead b) 5)).size = (Wi.tail (Wi.ahead b) 5).length from rfl, hl, ← v0]
    rfl
  unfold rqL
  rw [if_pos hr, e, hP]
  exact hw.symm
theorem pr_of {b : List UInt8} (h : Wi.prE b = 0) : Wi.rr (Wi.prI b) (Wi.prS b) (Wi.prF b) (Wi.prZ b) (Wi.prB b).length = true ∧ rrL (Wi.prI b) (Wi.prS b) (Wi.prF b) (Wi.prZ b) (Wi.prB b) = b := by
  have hI : Wi.prI b = (Wi.rdV (Wi.ahead b) 1 : Int) := if_pos h
  have hS : Wi.prS b = (Wi.rdV (Wi.ahead b) 2 : Int) := if_pos h
  have hF : Wi.prF b = (Wi.rdV (Wi.ahead b) 3 : Int) := if_pos h
  have hZ : Wi.prZ b = (Wi.rdV (Wi.ahead b) 4 : Int) := if_pos h
  have hB : Wi.prB b = Wi.tail (Wi.ahead b) 6 := if_pos h
  have h5 := prE_zero h
  obtain ⟨h4, hs, ho, v0, hl⟩ := paE_of h5.1
  have hr : Wi.rr (Wi.prI b) (Wi.prS b) (Wi.prF b) (Wi.prZ b) (Wi.prB b).length = true := by rw [hI, hS, hF, hZ, hB]; exact h5.2
  refine ⟨hr, ?_⟩
  have hw := wire_of h4 hs ho
  have e : rrN (Wi.prI b) (Wi.prS b) (Wi.prF b) (Wi.prZ b) (Wi.prB b).length = rdVs (Wi.ahead b) 6 := by
    unfold rrN
    rw [hI, hS, hF, hZ, hB, Int.toNat_natCast, Int.toNat_natCast, Int.toNat_natCast, Int.toNat_natCast, hl, show rdVs (Wi.ahead b) 6 = [Wi.rdV (Wi.ahead b) 0, Wi.rdV (Wi.ahead b) 1, Wi.rdV (Wi.ahead b) 2, Wi.rdV (Wi.ahead b) 3, Wi.rdV (Wi.ahead b) 4, Wi.rdV (Wi.ahead b) 5] from rfl, v0]
  unfold rrL
  rw [if_pos hr, e, hB]
  exact hw.symm
/-- no bytes are both -/
theorem not_both {b : List UInt8} (h : Wi.pqE b = 0) : Wi.prE b ≠ 0 := by
  intro h'
  have h5 := (pqE_zero h).1
  have h6 := (prE_zero h').1
  have := (paE_of h5).2.2.2.1
  have := (paE_of h6).2.2.2.1
  omega
end Go.Proofs.YtbfhpgpceakeiaaGreatDoor.C20
