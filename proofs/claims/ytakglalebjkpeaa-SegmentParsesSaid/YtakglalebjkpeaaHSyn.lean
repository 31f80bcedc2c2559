/- Texts of this claim in one: HSyn. What each proves, and on what conditions, its own words say. -/
import Derived.Test.YtakglalebjkpeaaHGol
import Derived.Test.YtakglalebjkpeaaHLib2
import Derived.Test.YtakglalebjkpeaaHPlain
import Derived.Laws.Slices
namespace Go.Proofs.Ytakglalebjkpeaa.C12
open Go.RowKit Kin

theorem side_cases (x : Int) : x < 16 ∨ (16 ≤ x ∧ 4096 < x) ∨ (16 ≤ x ∧ x ≤ 4096 ∧ (x % 16 != 0) = true) ∨ (16 ≤ x ∧ x ≤ 4096 ∧ (x % 16 != 0) = false) := by
  by_cases h1 : x < 16
  · exact .inl h1
  · by_cases h2 : 4096 < x
    · exact .inr (.inl ⟨by omega, h2⟩)
    · by_cases h3 : x % 16 = 0
      · exact .inr (.inr (.inr ⟨by omega, by omega, by simpa using h3⟩))
      · exact .inr (.inr (.inl ⟨by omega, by omega, by simpa using h3⟩))
/-- a sequence as a value -/
abbrev seqV (W H G : Int) : Value := .agg #[.int .i64 W, .int .i64 H, .int .i64 G]
def RetBool (w : World) (b : Bool) (e : Ending) (w' : World) : Prop := e = .returned (.bool b) ∧ Below w.heap.size w w'
theorem ret_bool {a b : Bool} (h : a = b) : Ending.returned (.bool a) = .returned (.bool b) := by rw [h]
set_option maxRecDepth 100000 in
set_option maxHeartbeats 2000000 in
theorem refright_calls (W H G : Int) (w : World) : Calls Try.prog 34 #[seqV W H G] w (RetBool w (Syn.rightB W H G)) := by
  have HW := hide (Syn.tmod16 W)
  have HH := hide (Syn.tmod16 H)
  have hg : G ≤ 64 ∨ 64 < G := by omega
  rcases hg with hg | hg
  all_goals
    go_enter Try.func34, Try.ntmps34
    go_wp2
    all_goals
      go_ret
      refine ⟨ret_bool ?_, (Below.refl _ _).alloc (Nat.le_refl _) _⟩
      have a1 := HW.out
      have a2 := HH.out
      first | exact Eq.symm (Syn.right_false (W := W) (H := H) (G := G) (by omega)) | exact Eq.symm (Syn.right_true (W := W) (H := H) (G := G) (by omega)) | exact Eq.symm ((Syn.right_false (W := W) (H := H) (G := G) (by omega)).trans (decide_eq_false (p := G ≤ 64) (by omega)).symm)

set_option maxRecDepth 100000 in
set_option maxHeartbeats 4000000 in
theorem right_calls (W H G : Int) (w : World) : Calls Try.prog 32 #[seqV W H G] w (RetBool w (Syn.rightB W H G)) := by
  have i0 : ∀ w, (Instr.index 38 (.agg #[.int .i64 W, .int .i64 H]) (.int .i64 0)).run Try.prog w = .ok (.int .i64 W) w := fun _ => by kernel_rfl
  have i1 : ∀ w, (Instr.index 38 (.agg #[.int .i64 W, .int .i64 H]) (.int .i64 1)).run Try.prog w = .ok (.int .i64 H) w := fun _ => by kernel_rfl
  go_enter Try.func32, Try.ntmps32
  go_wp2
  go_loop [10] (fun iv => ∃ i : Nat, i ≤ 2 ∧ iv = .int .i64 (i : Int) ∧ Hid ((1 ≤ i → 16 ≤ W ∧ W ≤ 4096 ∧ W % 16 = 0) ∧ (2 ≤ i → 16 ≤ H ∧ H ≤ 4096 ∧ H % 16 = 0))) (fun iv => 2 - (intOf iv).toNat)
  case atStart => exact ⟨0, by omega, rfl, ⟨fun h => absurd h (by omega), fun h => absurd h (by omega)⟩⟩
  case round =>
    obtain ⟨i, hi, rfl, HI⟩ := hrel
    have hcase : i = 0 ∨ i = 1 ∨ i = 2 := by omega
    rcases hcase with rfl | rfl | rfl
    · rw [show ((0 : Nat) : Int) = 0 from rfl]
      rcases side_cases W with h1 | ⟨h1, h2⟩ | ⟨h1, h2, h3⟩ | ⟨h1, h2, h3⟩
      iterate 3
        · go_wp2
          go_ret
          try (have h3 := bne_iff_ne.1 h3)
          exact ⟨ret_bool (Eq.symm (Syn.right_false (W := W) (H := H) (G := G) (by omega))), (Below.refl _ _).alloc (Nat.le_refl _) _⟩
      · have HI2 : Hid ((1 ≤ 1 → 16 ≤ W ∧ W ≤ 4096 ∧ W % 16 = 0) ∧ (2 ≤ 1 → 16 ≤ H ∧ H ≤ 4096 ∧ H % 16 = 0)) := ⟨fun _ => ⟨h1, h2, by simpa using h3⟩, fun h => absurd h (by omega)⟩
        go_wp2
        go_round
        case rel => exact ⟨1, by omega, rfl, HI2⟩
        case measure => simp [intOf]
    · rw [show ((1 : Nat) : Int) = 1 from rfl]
      have HI1 := HI.out.1 (Nat.le_refl _)
      have HIW := hide HI1
      clear HI1
      rcases side_cases H with h1 | ⟨h1, h2⟩ | ⟨h1, h2, h3⟩ | ⟨h1, h2, h3⟩
      iterate 3
        · go_wp2
          go_ret
          try (have h3 := bne_iff_ne.1 h3)
          exact ⟨ret_bool (Eq.symm (Syn.right_false (W := W) (H := H) (G := G) (by omega))), (Below.refl _ _).alloc (Nat.le_refl _) _⟩
      · have HI2 : Hid ((1 ≤ 2 → 16 ≤ W ∧ W ≤ 4096 ∧ W % 16 = 0) ∧ (2 ≤ 2 → 16 ≤ H ∧ H ≤ 4096 ∧ H % 16 = 0)) := ⟨fun _ => HIW.out, fun _ => ⟨h1, h2, by simpa using h3⟩⟩
        go_wp2
        go_round
        case rel => exact ⟨2, by omega, rfl, HI2⟩
        case measure => simp [intOf]
    · rw [show ((2 : Nat) : Int) = 2 from rfl]
      have HI1 := hide (HI.out.1 (by omega))
      have HI2 := hide (HI.out.2 (by omega))
      clear HI
      have hg : G < 1 ∨ (1 ≤ G ∧ G ≤ 64) ∨ (1 ≤ G ∧ 64 < G) := by omega
      rcases hg with hg | ⟨hg, hg'⟩ | ⟨hg, hg'⟩
      all_goals
        go_wp2
        go_ret
        refine ⟨ret_bool ?_, (Below.refl _ _).alloc (Nat.le_refl _) _⟩
        have a1 := HI1.out
        have a2 := HI2.out
        first | exact Eq.symm (Syn.right_false (W := W) (H := H) (G := G) (by omega)) | exact Eq.symm (Syn.right_true (W := W) (H := H) (G := G) (by omega)) | exact Eq.symm ((Syn.right_false (W := W) (H := H) (G := G) (by omega)).trans (decide_eq_false (p := G ≤ 64) (by omega)).symm)

abbrev headV (K : Bool) (N Q : Int) : Value := .agg #[.bool K, .int .i64 N, .int .i64 Q]

end Go.Proofs.Ytakglalebjkpeaa.C12
namespace Go.Proofs.Ytakglalebjkpeaa.C12
open Go.RowKit Kin

/-- what a parser holds: an error's box, a pointer's box, a reader -/
def PS (w : World) (ge gp gr rr : Nat) (l : List UInt8) (k : Nat) (E : Int) : Prop :=
  Blk w ge 32 #[.int .i64 E] ∧ Blk w gp 89 #[.pointer (some ⟨gr, 0, none⟩)] ∧ ReaderIs w gr rr l k
/-- its blocks that may change -/
def PSF (ge gr k : Nat) : Prop := k = ge ∨ k = gr
theorem PS.below {w w' : World} {ge gp gr rr k : Nat} {l : List UInt8} {E : Int} (h : PS w ge gp gr rr l k E) (hb : Below w.heap.size w w') : PS w' ge gp gr rr l k E :=
  ⟨h.1.below hb h.1.lt, h.2.1.below hb h.2.1.lt, h.2.2.below hb⟩
theorem PS.ne {w : World} {ge gp gr rr k : Nat} {l : List UInt8} {E : Int} (h : PS w ge gp gr rr l k E) : ge ≠ gr ∧ gp ≠ gr ∧ ge ≠ gp ∧ rr ≠ ge ∧ rr ≠ gp ∧ rr ≠ gr := by
  obtain ⟨h1, h2, h3⟩ := h
  refine ⟨h1.ne_ h3.1 (by decide), h2.ne_ h3.1 (by decide), h1.ne_ h2 (by decide), ?_, ?_, h3.ne⟩
  · have := own_blk_ne h3.2.1.2 h1 (by decide)
    intro e; subst e; exact this (by rw [ownBlock_slice]; rfl)
  · have := own_blk_ne h3.2.1.2 h2 (by decide)
    intro e; subst e; exact this (by rw [ownBlock_slice]; rfl)
/-- the reader has gone on -/
theorem PS.read {w w' : World} {ge gp gr rr k k' : Nat} {l : List UInt8} {E : Int} (h : PS w ge gp gr rr l k E) (hr : ReaderIs w' gr rr l k') (hc : Chg (One gr) w w') : PS w' ge gp gr rr l k' E ∧ Chg (PSF ge gr) w w' :=
  ⟨⟨hc.blk h.1 h.ne.1, hc.blk h.2.1 h.ne.2.1, hr⟩, hc.mono (fun _ _ e => .inr e)⟩
/-- the error is laid down -/
theorem PS.err {w : World} {ge gp gr rr k : Nat} {l : List UInt8} {E : Int} (h : PS w ge gp gr rr l k E) (E' : Int) : PS (w.setCell ⟨ge, 0, none⟩ (.int .i64 E')) ge gp gr rr l k E' := by
  have hn := h.ne
  refine ⟨by simpa using h.1.set_ 0 (.int .i64 E'), h.2.1.far (p := ⟨ge, 0, none⟩) (Ne.symm hn.2.2.1) _, h.2.2.1.far (p := ⟨ge, 0, none⟩) (Ne.symm hn.1) _, h.2.2.2.1.setFar (p := ⟨ge, 0, none⟩) (by simp [blkOf]; exact hn.2.2.2.1) _, h.2.2.2.2⟩

theorem gV_lt2 (B : List Bool) : Gol.gV B + 1 < 9223372036854775808 := by
  unfold Gol.gV
  split
  · rename_i h
    have h1 := Bit.num_lt (B.take (2 * Gol.gN B + 1))
    have h2 : Gol.gN B ≠ 32 := fun e => by unfold Gol.gE at h; rw [if_pos e] at h; omega
    have h3 := (Gol.gN_le B).1
    have h4 : 2 ^ (B.take (2 * Gol.gN B + 1)).length ≤ 2 ^ 63 := Nat.pow_le_pow_right (by omega) (by rw [List.length_take]; omega)
    omega
  · omega

theorem tw_false (B : List Bool) : ∀ n, n ≤ (B.takeWhile (! ·)).length → B.take n = List.replicate n false := by
  induction B with
  | nil => intro n h; simp at h; subst h; rfl
  | cons b B ih =>
    intro n h
    cases n with
    | zero => rfl
    | succ n =>
      cases b
      · rw [List.takeWhile_cons] at h
        simp only [Bool.not_false, if_true, List.length_cons] at h
        rw [List.take_succ_cons, ih n (by omega), List.replicate_succ]
      · simp at h
theorem num_zeros (n : Nat) : Bit.num (List.replicate n false) = 0 := by
  induction n with
  | zero => rfl
  | succ n ih => rw [List.replicate_succ', Bit.num_snoc, ih]; rfl
theorem gV_le (B : List Bool) : Gol.gV B ≤ 4294967294 := by
  unfold Gol.gV
  split
  · rename_i h
    have h2 : Gol.gN B ≠ 32 := fun e => by unfold Gol.gE at h; rw [if_pos e] at h; omega
    have h3 := (Gol.gN_le B).1
    have h5 : Gol.gN B ≤ (B.takeWhile (! ·)).length := by unfold Gol.gN; omega
    have e : B.take (2 * Gol.gN B + 1) = B.take (Gol.gN B) ++ (B.drop (Gol.gN B)).take (Gol.gN B + 1) := by
      rw [show 2 * Gol.gN B + 1 = Gol.gN B + (Gol.gN B + 1) from by omega, List.take_add]
    rw [e, tw_false B _ h5, Bit.num_append, num_zeros, Nat.zero_mul, Nat.zero_add]
    have h1 := Bit.num_lt ((B.drop (Gol.gN B)).take (Gol.gN B + 1))
    have h4 : 2 ^ ((B.drop (Gol.gN B)).take (Gol.gN B + 1)).length ≤ 2 ^ 32 := Nat.pow_le_pow_right (by omega) (by rw [List.length_take]; omega)
    omega
  · omega

def stE (E : Int) (B : List Bool) : Int := if E = 0 then Gol.gE B else E
def stV (E : Int) (B : List Bool) : Int := if E = 0 then (Gol.gV B : Int) + 1 else 0
def stK (E : Int) (B : List Bool) : Nat := if E = 0 then Gol.gK B else 0
set_option maxRecDepth 100000 in
set_option maxHeartbeats 2000000 in
theorem next1_calls (ge gp gr rr : Nat) (l : List UInt8) (k : Nat) (E : Int) (w : World) (h : PS w ge gp gr rr l k E) :
    Calls Try.prog 64 #[.pointer (some ⟨ge, 0, none⟩), .pointer (some ⟨gp, 0, none⟩)] w
      fun e w' => e = .returned (.int .i64 (stV E (bitsOf l k))) ∧ PS w' ge gp gr rr l (k + stK E (bitsOf l k)) (stE E (bitsOf l k)) ∧ Chg (PSF ge gr) w w' := by
  have c0 : w.cell? ⟨ge, 0, none⟩ = some (.int .i64 E) := h.1.cell 0
  have c1 : w.cell? ⟨gp, 0, none⟩ = some (.pointer (some ⟨gr, 0, none⟩)) := h.2.1.cell 0
  by_cases hE : E = 0
  · subst hE
    have HV : Hid (stV 0 (bitsOf l k) = (Gol.gV (bitsOf l k) : Int) + 1) := if_pos rfl
    have HE : Hid (stE 0 (bitsOf l k) = Gol.gE (bitsOf l k)) := if_pos rfl
    have HK : Hid (stK 0 (bitsOf l k) = Gol.gK (bitsOf l k)) := if_pos rfl
    rw [HV.out, HE.out, HK.out]
    have hv := gV_lt2 (bitsOf l k)
    have HG := hide (gget_any gr rr l k)
    clear HV HE HK
    generalize Gol.gE (bitsOf l k) = E1 at *
    generalize Gol.gV (bitsOf l k) = V1 at *
    go_enter Try.func64, Try.ntmps64
    go_wp2_with fail
    refine (HG.out _ h.2.2).mono ?_
    rintro e w1 ⟨rfl, hr1, ch1⟩
    obtain ⟨p1, cc1⟩ := h.read hr1 ch1
    have k0 : w1.cell? ⟨ge, 0, none⟩ = some (.int .i64 0) := p1.1.cell 0
    have kf := p1.1.frozen 0
    have p2 := p1.err E1
    have cc2 := cc1.setCell (p := ⟨ge, 0, none⟩) (.inl (.inl rfl)) (.int .i64 E1)
    clear h hr1 ch1 c0 c1 p1 cc1
    go_wp2
    go_ret
    exact ⟨rfl, p2, cc2⟩
  · have q : (E != 0) = true := by simpa using hE
    have HV : Hid (stV E (bitsOf l k) = 0) := if_neg hE
    have HE : Hid (stE E (bitsOf l k) = E) := if_neg hE
    have HK : Hid (stK E (bitsOf l k) = 0) := if_neg hE
    rw [HV.out, HE.out, HK.out, Nat.add_zero]
    clear hE
    go_enter Try.func64, Try.ntmps64
    go_wp2
    go_ret
    exact ⟨rfl, h, Chg.refl _ _⟩

/-- what the program finds in bytes: three numbers, the error, where it is -/
def psE1 (l : List UInt8) : Int := getE (8 * l.length) 0 16
def psK1 (l : List UInt8) : Nat := getK (8 * l.length) 0 16
def psE2 (l : List UInt8) : Int := stE (psE1 l) (bitsOf l (psK1 l))
def psK2 (l : List UInt8) : Nat := psK1 l + stK (psE1 l) (bitsOf l (psK1 l))
def psE3 (l : List UInt8) : Int := stE (psE2 l) (bitsOf l (psK2 l))
def psK3 (l : List UInt8) : Nat := psK2 l + stK (psE2 l) (bitsOf l (psK2 l))
def psE4 (l : List UInt8) : Int := stE (psE3 l) (bitsOf l (psK3 l))
def psK4 (l : List UInt8) : Nat := psK3 l + stK (psE3 l) (bitsOf l (psK3 l))
def psW (l : List UInt8) : Int := stV (psE1 l) (bitsOf l (psK1 l))
def psH (l : List UInt8) : Int := stV (psE2 l) (bitsOf l (psK2 l))
def psG (l : List UInt8) : Int := stV (psE3 l) (bitsOf l (psK3 l))
/-- is it a sequence? -/
def psOk (l : List UInt8) : Bool :=
  psE4 l == 0 && getV l 0 16 == 19273 && Syn.rightB (16 * psW l) (16 * psH l) (psG l) && Bit.restB (Bit.row l) (psK4 l) && decide (8 * ((psK4 l + 7) / 8) = 8 * l.length)
/-- what is answered -/
def psRW (l : List UInt8) : Int := if psOk l then 16 * psW l else 0
def psRH (l : List UInt8) : Int := if psOk l then 16 * psH l else 0
def psRG (l : List UInt8) : Int := if psOk l then psG l else 0
def psRE (l : List UInt8) : Int := if psOk l then 0 else 121

theorem stV_range (E : Int) (B : List Bool) : 0 ≤ stV E B ∧ stV E B ≤ 4294967295 := by
  unfold stV
  have := gV_le B
  split <;> omega

/-- three stores into the answer's block -/
theorem three_set {w V : World} {g : Nat} {a b c : Value} (h : Blk V g 23 #[a, b, c]) (hb : Below w.heap.size w V) (hg : w.heap.size ≤ g) (x y z : Value) :
    Blk (((V.setCell ⟨g, 0, none⟩ x).setCell ⟨g, 1, none⟩ y).setCell ⟨g, 2, none⟩ z) g 23 #[x, y, z] ∧ Below w.heap.size w (((V.setCell ⟨g, 0, none⟩ x).setCell ⟨g, 1, none⟩ y).setCell ⟨g, 2, none⟩ z) :=
  ⟨by simpa using ((h.set_ 0 x).set_ 1 y).set_ 2 z, ((hb.setCell (p := ⟨g, 0, none⟩) hg x).setCell (p := ⟨g, 1, none⟩) hg y).setCell (p := ⟨g, 2, none⟩) hg z⟩
theorem psR_no {l : List UInt8} (h : psOk l = false) : psRW l = 0 ∧ psRH l = 0 ∧ psRG l = 0 ∧ psRE l = 121 := by
  unfold psRW psRH psRG psRE
  rw [h]; exact ⟨rfl, rfl, rfl, rfl⟩
theorem psR_yes {l : List UInt8} (h : psOk l = true) : psRW l = 16 * psW l ∧ psRH l = 16 * psH l ∧ psRG l = psG l ∧ psRE l = 0 := by
  unfold psRW psRH psRG psRE
  rw [h]; exact ⟨rfl, rfl, rfl, rfl⟩
/-- a sequence that is answered -/
def RetSeq (w : World) (W H G E : Int) (e : Ending) (w' : World) : Prop := e = .returned (.tuple #[seqV W H G, .int .i64 E]) ∧ Below w.heap.size w w'
theorem seqZero : (Try.prog.info? 23).map (fun i => (i.zero, i.size)) = some (some (.agg #[.int .i64 0, .int .i64 0, .int .i64 0]), 3) := by kernel_rfl
set_option maxRecDepth 100000 in
set_option maxHeartbeats 4000000 in
theorem parseSeq_calls (A : Option Addr) (n c : Nat) (l : List UInt8) (w : World) (hn : n = l.length) (hm : n ≤ 1000000) {B0 : Nat} (hA : Byt w B0 A l) (hB0 : B0 ≤ w.heap.size) :
    Calls Try.prog 40 #[.slice A n c] w (RetSeq w (psRW l) (psRH l) (psRG l) (psRE l)) := by
  have hz := (zero_of_info seqZero).1
  have HN := hide hn
  clear hn
  have bb0 : Below w.heap.size w (w.alloc (.cells #[.int .i64 0, .int .i64 0, .int .i64 0] 23)) := (Below.refl w.heap.size w).alloc (Nat.le_refl _) _
  have bS := Blk.new w 23 #[.int .i64 0, .int .i64 0, .int .i64 0]
  go_enter Try.func40, Try.ntmps40
  go_wp2_with fail
  refine (open_calls _ _ _ l _ HN.out (by omega) (hA.below (bb0.mono hB0))).mono ?_
  rintro e w1 ⟨rfl, hr1, b1⟩
  have hb11 : Below w1.heap.size w1 (w1.alloc (.cells #[.pointer (some ⟨w.heap.size + 1 + 1, 0, none⟩)] 89)) := (Below.refl _ _).alloc (Nat.le_refl _) _
  rw [World.size_alloc] at hr1
  have hr11 := hr1.below hb11
  have bP := Blk.new w1 89 #[.pointer (some ⟨w.heap.size + 1 + 1, 0, none⟩)]
  have bS11 := (bS.below b1 bS.lt).below hb11 (by have := (bS.below b1 bS.lt).lt; omega)
  have bb11 := (bb0.trans (b1.mono bb0.size)).trans (hb11.mono (bb0.trans (b1.mono bb0.size)).size)
  have gN1 : w.heap.size ≤ w1.heap.size := (bb0.trans (b1.mono bb0.size)).size
  obtain ⟨gr, hgr⟩ : ∃ g, g = w.heap.size + 1 + 1 := ⟨_, rfl⟩
  obtain ⟨rr, hrr⟩ : ∃ g, g = w.heap.size + 1 := ⟨_, rfl⟩
  obtain ⟨gp, hgp⟩ : ∃ g, g = w1.heap.size := ⟨_, rfl⟩
  go_wp2_with fail
  rw [← hgr, ← hrr] at hr11
  rw [← hgr, ← hgp] at bP
  rw [← hgr] at bS11 bb11
  rw [← hgr, ← hgp]
  have ggr : w.heap.size ≤ gr := by omega
  generalize w1.alloc (.cells #[.pointer (some ⟨gr, 0, none⟩)] 89) = W1 at *
  clear hb11 hr1 b1 hgr hrr hgp bS bb0 gN1
  refine (get_any gr rr l 0 16 _ hr11).mono ?_
  rintro e w2 ⟨rfl, hr2, ch2⟩
  have bP2 := ch2.blk bP (bP.ne_ hr11.1 (by decide))
  have bS2 := ch2.blk bS11 (bS11.ne_ hr11.1 (by decide))
  have bb2 := bb11.trans (ch2.below (fun i h => by have h : i = gr := h; omega) bb11.size)
  clear hr11 ch2 bP bS11 bb11
  have hb3 : Below w2.heap.size w2 (w2.alloc (.cells #[.int .i64 (psE1 l)] 32)) := (Below.refl _ _).alloc (Nat.le_refl _) _
  have P3 : PS (w2.alloc (.cells #[.int .i64 (psE1 l)] 32)) w2.heap.size gp gr rr l (psK1 l) (psE1 l) := ⟨Blk.new _ _ _, bP2.below hb3 bP2.lt, hr2.below hb3⟩
  have bS3 := bS2.below hb3 bS2.lt
  have bb3 := bb2.trans (hb3.mono bb2.size)
  have ge0 : w.heap.size ≤ w2.heap.size := bb2.size
  rw [show getE (8 * l.length) 0 16 = psE1 l from rfl]
  obtain ⟨ge, hge⟩ : ∃ g, g = w2.heap.size := ⟨_, rfl⟩
  rw [← hge] at P3 ge0
  clear bP2 hr2 bS2 bb2 hb3
  have HW : Hid (psW l = stV (psE1 l) (bitsOf l (psK1 l))) := rfl
  have HE2 : Hid (psE2 l = stE (psE1 l) (bitsOf l (psK1 l))) := rfl
  have HK2 : Hid (psK2 l = psK1 l + stK (psE1 l) (bitsOf l (psK1 l))) := rfl
  have HH : Hid (psH l = stV (psE2 l) (bitsOf l (psK2 l))) := rfl
  have HE3 : Hid (psE3 l = stE (psE2 l) (bitsOf l (psK2 l))) := rfl
  have HK3 : Hid (psK3 l = psK2 l + stK (psE2 l) (bitsOf l (psK2 l))) := rfl
  have HG : Hid (psG l = stV (psE3 l) (bitsOf l (psK3 l))) := rfl
  have HE4 : Hid (psE4 l = stE (psE3 l) (bitsOf l (psK3 l))) := rfl
  have HK4 : Hid (psK4 l = psK3 l + stK (psE3 l) (bitsOf l (psK3 l))) := rfl
  generalize psE1 l = E1 at *
  go_wp2_with fail
  rw [← hge]
  generalize w2.alloc (.cells #[.int .i64 E1] 32) = W3 at *
  clear hge
  refine (next1_calls ge gp gr rr l _ _ _ P3).mono ?_
  rintro e W4 ⟨rfl, P4, cc4⟩
  rw [← HE2.out, ← HK2.out] at P4
  rw [← HW.out]
  have bS4 := cc4.blk bS3 (fun h => by rcases h with h | h; exact bS3.ne_ P3.1 (by decide) h; exact bS3.ne_ P3.2.2.1 (by decide) h)
  have bb4 := bb3.trans (cc4.below (fun i h => by rcases h with h | h <;> omega) bb3.size)
  clear P3 cc4 bS3 bb3
  go_wp2_with fail
  refine (next1_calls ge gp gr rr l _ _ _ P4).mono ?_
  rintro e W5 ⟨rfl, P5, cc5⟩
  rw [← HE3.out, ← HK3.out] at P5
  rw [← HH.out]
  have bS5 := cc5.blk bS4 (fun h => by rcases h with h | h; exact bS4.ne_ P4.1 (by decide) h; exact bS4.ne_ P4.2.2.1 (by decide) h)
  have bb5 := bb4.trans (cc5.below (fun i h => by rcases h with h | h <;> omega) bb4.size)
  clear P4 cc5 bS4 bb4
  go_wp2_with fail
  refine (next1_calls ge gp gr rr l _ _ _ P5).mono ?_
  rintro e W6 ⟨rfl, P6, cc6⟩
  rw [← HE4.out, ← HK4.out] at P6
  rw [← HG.out]
  have bS6 := cc6.blk bS5 (fun h => by rcases h with h | h; exact bS5.ne_ P5.1 (by decide) h; exact bS5.ne_ P5.2.2.1 (by decide) h)
  have bb6 := bb5.trans (cc6.below (fun i h => by rcases h with h | h <;> omega) bb5.size)
  clear P5 cc6 bS5 bb5
  have rW : 0 ≤ psW l ∧ psW l ≤ 4294967295 := by rw [HW.out]; exact stV_range _ _
  have rH : 0 ≤ psH l ∧ psH l ≤ 4294967295 := by rw [HH.out]; exact stV_range _ _
  have rG : 0 ≤ psG l ∧ psG l ≤ 4294967295 := by rw [HG.out]; exact stV_range _ _
  have HOK : Hid (psOk l = (psE4 l == 0 && getV l 0 16 == 19273 && Syn.rightB (16 * psW l) (16 * psH l) (psG l) && Bit.restB (Bit.row l) (psK4 l) && decide (8 * ((psK4 l + 7) / 8) = 8 * l.length))) := rfl
  clear HW HE2 HK2 HH HE3 HK3 HG HE4 HK4
  generalize hvW : psW l = vW at *
  have HvW := hide hvW
  clear hvW
  generalize hvH : psH l = vH at *
  have HvH := hide hvH
  clear hvH
  generalize hvG : psG l = vG at *
  have HvG := hide hvG
  clear hvG
  generalize psE4 l = E4 at *
  generalize psK4 l = K4 at *
  generalize getV l 0 16 = hd at *
  obtain ⟨rW1, rW2⟩ := rW
  obtain ⟨rH1, rH2⟩ := rH
  obtain ⟨rG1, rG2⟩ := rG
  have hb7 : Below W6.heap.size W6 (W6.alloc (.cells #[.int .i64 (vW * 16), .int .i64 (vH * 16), .int .i64 vG] 23)) := (Below.refl _ _).alloc (Nat.le_refl _) _
  have bN := Blk.new W6 23 #[.int .i64 (vW * 16), .int .i64 (vH * 16), .int .i64 vG]
  have P7 := P6.below hb7
  have bS7 := bS6.below hb7 bS6.lt
  have bb7 := bb6.trans (hb7.mono bb6.size)
  clear P6 bS6 bb6 hb7
  have c0 : (W6.alloc (.cells #[.int .i64 (vW * 16), .int .i64 (vH * 16), .int .i64 vG] 23)).cell? ⟨ge, 0, none⟩ = some (.int .i64 E4) := P7.1.cell 0
  have s0 : (W6.alloc (.cells #[.int .i64 (vW * 16), .int .i64 (vH * 16), .int .i64 vG] 23)).cell? ⟨w.heap.size, 0, none⟩ = some (.int .i64 0) := bS7.cell 0
  have s1 : (W6.alloc (.cells #[.int .i64 (vW * 16), .int .i64 (vH * 16), .int .i64 vG] 23)).cell? ⟨w.heap.size, 1, none⟩ = some (.int .i64 0) := bS7.cell 1
  have s2 : (W6.alloc (.cells #[.int .i64 (vW * 16), .int .i64 (vH * 16), .int .i64 vG] 23)).cell? ⟨w.heap.size, 2, none⟩ = some (.int .i64 0) := bS7.cell 2
  have sf0 := bS7.frozen 0
  have sf1 := bS7.frozen 1
  have sf2 := bS7.frozen 2
  by_cases h1 : E4 = 0
  · subst h1
    have q1 : ((0 : Int) != 0) = false := by decide
    by_cases h2 : hd = 19273
    · subst h2
      have q2 : ((((19273 : Nat) : Int)) != 19273) = false := by decide
      rw [show (((19273 : Nat)) : Int) = 19273 from rfl]
      have HRC := hide (right_calls (vW * 16) (vH * 16) vG)
      have ecom : 16 * vW = vW * 16 ∧ 16 * vH = vH * 16 := ⟨by omega, by omega⟩
      rw [ecom.1, ecom.2] at HOK
      have k0 : (W6.alloc (.cells #[.int .i64 (vW * 16), .int .i64 (vH * 16), .int .i64 vG] 23)).cell? ⟨W6.heap.size, 0, none⟩ = some (.int .i64 (vW * 16)) := bN.cell 0
      have k1 : (W6.alloc (.cells #[.int .i64 (vW * 16), .int .i64 (vH * 16), .int .i64 vG] 23)).cell? ⟨W6.heap.size, 1, none⟩ = some (.int .i64 (vH * 16)) := bN.cell 1
      have k2 : (W6.alloc (.cells #[.int .i64 (vW * 16), .int .i64 (vH * 16), .int .i64 vG] 23)).cell? ⟨W6.heap.size, 2, none⟩ = some (.int .i64 vG) := bN.cell 2
      clear s0 s1 s2 sf0 sf1 sf2 ecom
      go_wp2_with fail
      obtain ⟨gn, hgn⟩ : ∃ g, g = W6.heap.size := ⟨_, rfl⟩
      rw [← hgn] at bN
      rw [← hgn]
      generalize W6.alloc (.cells #[.int .i64 (vW * 16), .int .i64 (vH * 16), .int .i64 vG] 23) = W7 at *
      clear hgn k0 k1 k2 c0
      refine (HRC.out _).mono ?_
      rintro e W8 ⟨rfl, b8⟩
      have P8 := P7.below b8
      have bS8 := bS7.below b8 bS7.lt
      have bN8 := bN.below b8 bN.lt
      have bb8 := bb7.trans (b8.mono bb7.size)
      clear P7 bS7 bN bb7 b8 HRC
      have p0 : W8.cell? ⟨gp, 0, none⟩ = some (.pointer (some ⟨gr, 0, none⟩)) := P8.2.1.cell 0
      have s0 : W8.cell? ⟨w.heap.size, 0, none⟩ = some (.int .i64 0) := bS8.cell 0
      have s1 : W8.cell? ⟨w.heap.size, 1, none⟩ = some (.int .i64 0) := bS8.cell 1
      have s2 : W8.cell? ⟨w.heap.size, 2, none⟩ = some (.int .i64 0) := bS8.cell 2
      have sf0 := bS8.frozen 0
      have sf1 := bS8.frozen 1
      have sf2 := bS8.frozen 2
      cases hri : Syn.rightB (vW * 16) (vH * 16) vG
      · have HF : Hid (psOk l = false) := by show _ = _; rw [HOK.out, hri]; simp
        clear hri
        go_wp2
        obtain ⟨bF, bbF⟩ := three_set bS8 bb8 (Nat.le_refl _) (.int .i64 0) (.int .i64 0) (.int .i64 0)
        clear s0 s1 s2 sf0 sf1 sf2
        generalize (((W8).setCell ⟨w.heap.size, 0, none⟩ (.int .i64 0)).setCell ⟨w.heap.size, 1, none⟩ (.int .i64 0)).setCell ⟨w.heap.size, 2, none⟩ (.int .i64 0) = F at *
        have k0 : F.cell? ⟨w.heap.size, 0, none⟩ = some (.int .i64 0) := bF.cell 0
        have k1 : F.cell? ⟨w.heap.size, 1, none⟩ = some (.int .i64 0) := bF.cell 1
        have k2 : F.cell? ⟨w.heap.size, 2, none⟩ = some (.int .i64 0) := bF.cell 2
        refine bodyPost_ret (v := .tuple #[seqV 0 0 0, .int .i64 121]) (by simp [results, Try.results40, go_sem, k0, k1, k2]) rfl ?_
        obtain ⟨r1, r2, r3, r4⟩ := psR_no HF.out
        rw [r1, r2, r3, r4]
        exact ⟨rfl, bbF⟩
      · clear s0 s1 s2 sf0 sf1 sf2
        rw [hri] at HOK
        clear hri
        go_wp2_with fail
        refine (ralign_any gr rr l K4 _ P8.2.2).mono ?_
        rintro e W9 ⟨rfl, hr9, ch9⟩
        obtain ⟨P9, cc9⟩ := P8.read hr9 ch9
        have bS9 := ch9.blk bS8 (bS8.ne_ P8.2.2.1 (by decide))
        have bN9 := ch9.blk bN8 (bN8.ne_ P8.2.2.1 (by decide))
        have bb9 := bb8.trans (ch9.below (fun i h => by have h : i = gr := h; omega) bb8.size)
        clear hr9 ch9 cc9 P8 bS8 bN8 bb8 p0
        have p0 : W9.cell? ⟨gp, 0, none⟩ = some (.pointer (some ⟨gr, 0, none⟩)) := P9.2.1.cell 0
        have s0 : W9.cell? ⟨w.heap.size, 0, none⟩ = some (.int .i64 0) := bS9.cell 0
        have s1 : W9.cell? ⟨w.heap.size, 1, none⟩ = some (.int .i64 0) := bS9.cell 1
        have s2 : W9.cell? ⟨w.heap.size, 2, none⟩ = some (.int .i64 0) := bS9.cell 2
        have sf0 := bS9.frozen 0
        have sf1 := bS9.frozen 1
        have sf2 := bS9.frozen 2
        cases hrb : Bit.restB (Bit.row l) K4
        · have HF : Hid (psOk l = false) := by show _ = _; rw [HOK.out, hrb]; simp
          rw [show alE false = 11 from rfl]
          clear hrb
          go_wp2
          obtain ⟨bF, bbF⟩ := three_set bS9 bb9 (Nat.le_refl _) (.int .i64 0) (.int .i64 0) (.int .i64 0)
          clear s0 s1 s2 sf0 sf1 sf2
          generalize (((W9).setCell ⟨w.heap.size, 0, none⟩ (.int .i64 0)).setCell ⟨w.heap.size, 1, none⟩ (.int .i64 0)).setCell ⟨w.heap.size, 2, none⟩ (.int .i64 0) = F at *
          have k0 : F.cell? ⟨w.heap.size, 0, none⟩ = some (.int .i64 0) := bF.cell 0
          have k1 : F.cell? ⟨w.heap.size, 1, none⟩ = some (.int .i64 0) := bF.cell 1
          have k2 : F.cell? ⟨w.heap.size, 2, none⟩ = some (.int .i64 0) := bF.cell 2
          refine bodyPost_ret (v := .tuple #[seqV 0 0 0, .int .i64 121]) (by simp [results, Try.results40, go_sem, k0, k1, k2]) rfl ?_
          obtain ⟨r1, r2, r3, r4⟩ := psR_no HF.out
          rw [r1, r2, r3, r4]
          exact ⟨rfl, bbF⟩
        · rw [show alE true = 0 from rfl]
          rw [hrb] at HOK P9
          rw [show alK true K4 = 8 * ((K4 + 7) / 8) from rfl] at P9
          clear hrb s0 s1 s2 sf0 sf1 sf2
          go_wp2_with fail
          refine (left_calls gr rr l _ _ P9.2.2).mono ?_
          rintro e W10' ⟨rfl, hW10⟩
          have b10 : Below W9.heap.size W9 W10' := by rw [← hW10]; exact (Below.refl _ _).drew
          have bS10 := bS9.below b10 bS9.lt
          have bN10 := bN9.below b10 bN9.lt
          have bb10 := bb9.trans (b10.mono bb9.size)
          have hkk := P9.2.2.2.2.1
          clear hW10 P9 bS9 bN9 bb9 b10 p0
          obtain ⟨W10, rfl⟩ : ∃ x, x = W10' := ⟨_, rfl⟩
          have s0 : W10.cell? ⟨w.heap.size, 0, none⟩ = some (.int .i64 0) := bS10.cell 0
          have s1 : W10.cell? ⟨w.heap.size, 1, none⟩ = some (.int .i64 0) := bS10.cell 1
          have s2 : W10.cell? ⟨w.heap.size, 2, none⟩ = some (.int .i64 0) := bS10.cell 2
          have sf0 := bS10.frozen 0
          have sf1 := bS10.frozen 1
          have sf2 := bS10.frozen 2
          have m0 : W10.cell? ⟨gn, 0, none⟩ = some (.int .i64 (vW * 16)) := bN10.cell 0
          have m1 : W10.cell? ⟨gn, 1, none⟩ = some (.int .i64 (vH * 16)) := bN10.cell 1
          have m2 : W10.cell? ⟨gn, 2, none⟩ = some (.int .i64 vG) := bN10.cell 2
          generalize hkq : 8 * ((K4 + 7) / 8) = kq at *
          by_cases h5 : kq = 8 * l.length
          · have q5 : ((8 * (l.length : Int) - (kq : Int)) != 0) = false := by simp; omega
            have HF : Hid (psOk l = true) := by
              have e : decide (kq = 8 * l.length) = true := decide_eq_true h5
              show _ = _
              rw [HOK.out, e]; rfl
            clear hkq h5 hkk
            go_wp2
            obtain ⟨bF, bbF⟩ := three_set bS10 bb10 (Nat.le_refl _) (.int .i64 (vW * 16)) (.int .i64 (vH * 16)) (.int .i64 vG)
            clear s0 s1 s2 sf0 sf1 sf2 m0 m1 m2
            generalize ((W10.setCell ⟨w.heap.size, 0, none⟩ (.int .i64 (vW * 16))).setCell ⟨w.heap.size, 1, none⟩ (.int .i64 (vH * 16))).setCell ⟨w.heap.size, 2, none⟩ (.int .i64 vG) = F at *
            have k0 : F.cell? ⟨w.heap.size, 0, none⟩ = some (.int .i64 (vW * 16)) := bF.cell 0
            have k1 : F.cell? ⟨w.heap.size, 1, none⟩ = some (.int .i64 (vH * 16)) := bF.cell 1
            have k2 : F.cell? ⟨w.heap.size, 2, none⟩ = some (.int .i64 vG) := bF.cell 2
            refine bodyPost_ret (v := .tuple #[seqV (vW * 16) (vH * 16) vG, .int .i64 0]) (by simp [results, Try.results40, go_sem, k0, k1, k2]) rfl ?_
            obtain ⟨r1, r2, r3, r4⟩ := psR_yes HF.out
            rw [r1, r2, r3, r4, HvW.out, HvH.out, HvG.out, show 16 * vW = vW * 16 from by omega, show 16 * vH = vH * 16 from by omega]
            exact ⟨rfl, bbF⟩
          · have q5 : ((8 * (l.length : Int) - (kq : Int)) != 0) = true := by simp; omega
            have HF : Hid (psOk l = false) := by
              have e : decide (kq = 8 * l.length) = false := decide_eq_false h5
              show _ = _
              rw [HOK.out, e]; simp
            clear hkq h5 hkk m0 m1 m2
            go_wp2
            obtain ⟨bF, bbF⟩ := three_set bS10 bb10 (Nat.le_refl _) (.int .i64 0) (.int .i64 0) (.int .i64 0)
            clear s0 s1 s2 sf0 sf1 sf2
            generalize ((W10.setCell ⟨w.heap.size, 0, none⟩ (.int .i64 0)).setCell ⟨w.heap.size, 1, none⟩ (.int .i64 0)).setCell ⟨w.heap.size, 2, none⟩ (.int .i64 0) = F at *
            have k0 : F.cell? ⟨w.heap.size, 0, none⟩ = some (.int .i64 0) := bF.cell 0
            have k1 : F.cell? ⟨w.heap.size, 1, none⟩ = some (.int .i64 0) := bF.cell 1
            have k2 : F.cell? ⟨w.heap.size, 2, none⟩ = some (.int .i64 0) := bF.cell 2
            refine bodyPost_ret (v := .tuple #[seqV 0 0 0, .int .i64 121]) (by simp [results, Try.results40, go_sem, k0, k1, k2]) rfl ?_
            obtain ⟨r1, r2, r3, r4⟩ := psR_no HF.out
            rw [r1, r2, r3, r4]
            exact ⟨rfl, bbF⟩
    · have q2 : ((hd : Int) != 19273) = true := by simp; omega
      have HF : Hid (psOk l = false) := by
        have e : (hd == 19273) = false := by simpa using h2
        show _ = _
        rw [HOK.out, e]; simp
      go_wp2
      obtain ⟨bF, bbF⟩ := three_set bS7 bb7 (Nat.le_refl _) (.int .i64 0) (.int .i64 0) (.int .i64 0)
      clear s0 s1 s2 sf0 sf1 sf2
      generalize (((W6.alloc (.cells #[.int .i64 (vW * 16), .int .i64 (vH * 16), .int .i64 vG] 23)).setCell ⟨w.heap.size, 0, none⟩ (.int .i64 0)).setCell ⟨w.heap.size, 1, none⟩ (.int .i64 0)).setCell ⟨w.heap.size, 2, none⟩ (.int .i64 0) = F at *
      have k0 : F.cell? ⟨w.heap.size, 0, none⟩ = some (.int .i64 0) := bF.cell 0
      have k1 : F.cell? ⟨w.heap.size, 1, none⟩ = some (.int .i64 0) := bF.cell 1
      have k2 : F.cell? ⟨w.heap.size, 2, none⟩ = some (.int .i64 0) := bF.cell 2
      refine bodyPost_ret (v := .tuple #[seqV 0 0 0, .int .i64 121]) (by simp [results, Try.results40, go_sem, k0, k1, k2]) rfl ?_
      obtain ⟨r1, r2, r3, r4⟩ := psR_no HF.out
      rw [r1, r2, r3, r4]
      exact ⟨rfl, bbF⟩
  · have q1 : (E4 != 0) = true := by simpa using h1
    have HF : Hid (psOk l = false) := by
      have e : (E4 == 0) = false := by simpa using h1
      show _ = _
      rw [HOK.out, e]; simp
    go_wp2
    obtain ⟨bF, bbF⟩ := three_set bS7 bb7 (Nat.le_refl _) (.int .i64 0) (.int .i64 0) (.int .i64 0)
    clear s0 s1 s2 sf0 sf1 sf2
    generalize (((W6.alloc (.cells #[.int .i64 (vW * 16), .int .i64 (vH * 16), .int .i64 vG] 23)).setCell ⟨w.heap.size, 0, none⟩ (.int .i64 0)).setCell ⟨w.heap.size, 1, none⟩ (.int .i64 0)).setCell ⟨w.heap.size, 2, none⟩ (.int .i64 0) = F at *
    have k0 : F.cell? ⟨w.heap.size, 0, none⟩ = some (.int .i64 0) := bF.cell 0
    have k1 : F.cell? ⟨w.heap.size, 1, none⟩ = some (.int .i64 0) := bF.cell 1
    have k2 : F.cell? ⟨w.heap.size, 2, none⟩ = some (.int .i64 0) := bF.cell 2
    refine bodyPost_ret (v := .tuple #[seqV 0 0 0, .int .i64 121]) (by simp [results, Try.results40, go_sem, k0, k1, k2]) rfl ?_
    obtain ⟨r1, r2, r3, r4⟩ := psR_no HF.out
    rw [r1, r2, r3, r4]
    exact ⟨rfl, bbF⟩
end Go.Proofs.Ytakglalebjkpeaa.C12
namespace Go.Proofs.Ytakglalebjkpeaa.C12
open Go.RowKit Kin

theorem bl_of {x n : Nat} (h1 : 2 ^ n ≤ x) (h2 : x < 2 ^ (n + 1)) (hn : n < 64) : Gol.bl x = n + 1 := by
  have hle := Gol.bl_le h2 (by omega)
  have hp := Nat.two_pow_pos n
  have h64 : x < 2 ^ 64 := Nat.lt_of_lt_of_le h2 (Nat.pow_le_pow_right (by omega) (by omega))
  obtain ⟨_, _, i3⟩ := Gol.bl_spec x x (Nat.le_refl _) (by omega) h64
  rcases Nat.lt_or_ge (Gol.bl x) (n + 1) with h | h
  · have : 2 ^ Gol.bl x ≤ 2 ^ n := Nat.pow_le_pow_right (by omega) (by omega)
    omega
  · omega
theorem tw_next (B : List Bool) (h : (B.takeWhile (! ·)).length < B.length) : B.getD (B.takeWhile (! ·)).length false = true := by
  induction B with
  | nil => simp at h
  | cons b B ih =>
    cases b
    · rw [List.takeWhile_cons] at h ⊢
      simp only [Bool.not_false, if_true, List.length_cons] at h ⊢
      have := ih (by omega)
      simpa [List.getD] using this
    · rfl
/-- what is got is a code -/
theorem code_of {B : List Bool} (h : Gol.gE B = 0) : B = Gol.codeB (Gol.gV B) ++ B.drop (Gol.gK B) ∧ Gol.gK B = Gol.gl (Gol.gV B) := by
  have h2 : Gol.gN B ≠ 32 := fun e => by unfold Gol.gE at h; rw [if_pos e] at h; omega
  have hl : 2 * Gol.gN B + 1 ≤ B.length := by
    unfold Gol.gE at h
    rw [if_neg h2] at h
    split at h
    · omega
    · omega
  have hN : Gol.gN B = (B.takeWhile (! ·)).length := by unfold Gol.gN at *; omega
  have h3 := (Gol.gN_le B).1
  have hK : Gol.gK B = 2 * Gol.gN B + 1 := if_pos h
  have hV : Gol.gV B = Bit.num (B.take (2 * Gol.gN B + 1)) - 1 := if_pos h
  have hle := gV_le B
  have hb : B.getD (Gol.gN B) false = true := by rw [hN]; exact tw_next B (by omega)
  have hbit : B[Gol.gN B]'(by omega) = true := by
    rw [List.getD, List.getElem?_eq_getElem (by omega)] at hb
    simpa using hb
  have e : B.take (2 * Gol.gN B + 1) = List.replicate (Gol.gN B) false ++ (true :: (B.drop (Gol.gN B + 1)).take (Gol.gN B)) := by
    rw [show 2 * Gol.gN B + 1 = Gol.gN B + (Gol.gN B + 1) from by omega, List.take_add, tw_false B _ (by omega)]
    congr 1
    rw [List.drop_eq_getElem_cons (by omega), hbit, List.take_succ_cons]
  clear hbit
  generalize hn : Gol.gN B = n at *
  have hnum : Bit.num (B.take (2 * n + 1)) = 2 ^ n + Bit.num ((B.drop (n + 1)).take n) := by
    rw [e, Bit.num_append, num_zeros, Nat.zero_mul, Nat.zero_add]
    have := Bit.num_append [true] ((B.drop (n + 1)).take n)
    rw [List.singleton_append] at this
    rw [this, List.length_take, List.length_drop, show min n (B.length - (n + 1)) = n from by omega]
    show 1 * 2 ^ n + _ = _
    omega
  have hT := Bit.num_lt ((B.drop (n + 1)).take n)
  rw [List.length_take, List.length_drop, show min n (B.length - (n + 1)) = n from by omega] at hT
  have hp := Nat.two_pow_pos n
  have hv1 : Gol.gV B + 1 = Bit.num (B.take (2 * n + 1)) := by omega
  have hbl : Gol.bl (Gol.gV B + 1) = n + 1 := by
    rw [hv1, hnum]
    exact bl_of (by omega) (by rw [Nat.pow_succ]; omega) (by omega)
  have hcode : Gol.codeB (Gol.gV B) = B.take (2 * n + 1) := by
    unfold Gol.codeB
    rw [hbl, hv1, show 2 * (n + 1) - 1 = 2 * n + 1 from by omega]
    have := Bit.digits_num (B.take (2 * n + 1))
    rw [List.length_take, show min (2 * n + 1) B.length = 2 * n + 1 from by omega] at this
    exact this
  refine ⟨?_, ?_⟩
  · rw [hcode, hK, List.take_append_drop]
  · rw [hK, Gol.gl_of hle, hbl]; omega

theorem stE_zero {E : Int} {B : List Bool} (h : stE E B = 0) : E = 0 ∧ Gol.gE B = 0 := by
  unfold stE at h
  split at h
  · exact ⟨by assumption, h⟩
  · contradiction
theorem num_inj' {A B : List Bool} (hl : A.length = B.length) (h : Bit.num A = Bit.num B) : A = B := by
  rw [← Bit.digits_num A, ← Bit.digits_num B, h, hl]

theorem ps_spec {l : List UInt8} (h : psOk l = true) : Syn.rightB (16 * psW l) (16 * psH l) (psG l) = true ∧ l = Syn.seqL (16 * psW l) (16 * psH l) (psG l) := by
  unfold psOk at h
  simp only [Bool.and_eq_true, beq_iff_eq, decide_eq_true_eq] at h
  obtain ⟨⟨⟨⟨e4, hhd⟩, hri⟩, hrb⟩, hlen⟩ := h
  refine ⟨hri, ?_⟩
  obtain ⟨e3, g3⟩ := stE_zero e4
  obtain ⟨e2, g2⟩ := stE_zero e3
  obtain ⟨e1, g1⟩ := stE_zero e2
  have hl16 : 16 ≤ 8 * l.length := by
    unfold psE1 getE at e1
    rw [if_neg (by omega)] at e1
    split at e1
    · omega
    · simp at *; omega
  have e1' : getE (8 * l.length) 0 ((16 : Nat) : Int) = 0 := getE_ok (by omega) (by omega)
  have k1 : psK1 l = 16 := by
    show getK (8 * l.length) 0 ((16 : Nat) : Int) = 16
    unfold getK; rw [if_pos e1']; rfl
  have hv : Bit.get l 0 16 = 19273 := by
    have : getV l 0 ((16 : Nat) : Int) = Bit.get l 0 16 := by unfold getV; rw [if_pos e1']; rfl
    rw [← this]; exact hhd
  have hD : (Bit.row l).take 16 = Bit.digits 19273 16 := by
    apply num_inj'
    · rw [List.length_take, Bit.length_row, Bit.length_digits]; omega
    · have := get_row l 0 16 (by omega)
      rw [List.drop_zero] at this
      rw [this, hv]; decide +kernel
  have c1 := code_of g1
  have c2 := code_of g2
  have c3 := code_of g3
  have hW : psW l = (Gol.gV (bitsOf l (psK1 l)) : Int) + 1 := if_pos e1
  have hH : psH l = (Gol.gV (bitsOf l (psK2 l)) : Int) + 1 := if_pos e2
  have hG : psG l = (Gol.gV (bitsOf l (psK3 l)) : Int) + 1 := if_pos e3
  have k2 : psK2 l = psK1 l + Gol.gK (bitsOf l (psK1 l)) := by show _ + stK _ _ = _; rw [show stK (psE1 l) (bitsOf l (psK1 l)) = Gol.gK (bitsOf l (psK1 l)) from if_pos e1]
  have k3 : psK3 l = psK2 l + Gol.gK (bitsOf l (psK2 l)) := by show _ + stK _ _ = _; rw [show stK (psE2 l) (bitsOf l (psK2 l)) = Gol.gK (bitsOf l (psK2 l)) from if_pos e2]
  have k4 : psK4 l = psK3 l + Gol.gK (bitsOf l (psK3 l)) := by show _ + stK _ _ = _; rw [show stK (psE3 l) (bitsOf l (psK3 l)) = Gol.gK (bitsOf l (psK3 l)) from if_pos e3]
  have d2 : bitsOf l (psK2 l) = (bitsOf l (psK1 l)).drop (Gol.gK (bitsOf l (psK1 l))) := by rw [k2]; simp [bitsOf, List.drop_drop]
  have d3 : bitsOf l (psK3 l) = (bitsOf l (psK2 l)).drop (Gol.gK (bitsOf l (psK2 l))) := by rw [k3]; simp [bitsOf, List.drop_drop]
  have d4 : bitsOf l (psK4 l) = (bitsOf l (psK3 l)).drop (Gol.gK (bitsOf l (psK3 l))) := by rw [k4]; simp [bitsOf, List.drop_drop]
  have hB : Bit.row l = Syn.seqB (16 * psW l) (16 * psH l) (psG l) ++ bitsOf l (psK4 l) := by
    unfold Syn.seqB
    rw [show (16 * psW l / 16 - 1).toNat = Gol.gV (bitsOf l (psK1 l)) from by omega, show (16 * psH l / 16 - 1).toNat = Gol.gV (bitsOf l (psK2 l)) from by omega, show (psG l - 1).toNat = Gol.gV (bitsOf l (psK3 l)) from by omega]
    rw [List.append_assoc, List.append_assoc, List.append_assoc]
    rw [d4, ← c3.1, d3, ← c2.1, d2, ← c1.1, k1, ← hD]
    exact (List.take_append_drop 16 (Bit.row l)).symm
  have hl4 : psK4 l = (Syn.seqB (16 * psW l) (16 * psH l) (psG l)).length := by
    unfold Syn.seqB
    rw [show (16 * psW l / 16 - 1).toNat = Gol.gV (bitsOf l (psK1 l)) from by omega, show (16 * psH l / 16 - 1).toNat = Gol.gV (bitsOf l (psK2 l)) from by omega, show (psG l - 1).toNat = Gol.gV (bitsOf l (psK3 l)) from by omega]
    simp only [List.length_append, Bit.length_digits, Gol.length_codeB (gV_le _)]
    rw [← c1.2, ← c2.2, ← c3.2]
    omega
  rw [Syn.seqL_yes hri]
  generalize hS : Syn.seqB (16 * psW l) (16 * psH l) (psG l) = S at *
  have hR : bitsOf l (psK4 l) = List.replicate (8 * ((S.length + 7) / 8) - S.length) false := by
    apply List.ext_getElem?
    intro i
    have hlr : (bitsOf l (psK4 l)).length = 8 * ((S.length + 7) / 8) - S.length := by rw [length_bitsOf, ← hlen, hl4]
    by_cases hi : i < 8 * ((S.length + 7) / 8) - S.length
    · rw [List.getElem?_replicate, if_pos hi, List.getElem?_drop]
      have hi2 : psK4 l + i < (Bit.row l).length := by rw [Bit.length_row]; omega
      rw [List.getElem?_eq_getElem hi2]
      congr 1
      exact restB_at hrb (by omega) (by omega) hi2
    · rw [List.getElem?_eq_none (by omega), List.getElem?_eq_none (by simp; omega)]
  have : Bit.row l = Bit.fill S := by rw [hB, hR]; rfl
  rw [← Bit.pack_row l, this, Bit.pack_fill]

theorem st_code {v : Nat} (h : v ≤ 4294967294) {E : Int} (hE : E = 0) (D : List Bool) : stE E (Gol.codeB v ++ D) = 0 ∧ stV E (Gol.codeB v ++ D) = (v : Int) + 1 ∧ stK E (Gol.codeB v ++ D) = Gol.gl v := by
  refine ⟨?_, ?_, ?_⟩
  · unfold stE; rw [if_pos hE, Gol.gE_code h]
  · unfold stV; rw [if_pos hE, Gol.gV_code h]
  · unfold stK; rw [if_pos hE, Gol.gK_code h]
theorem ps_of {W H G : Int} (hri : Syn.rightB W H G = true) : psOk (Syn.seqL W H G) = true ∧ 16 * psW (Syn.seqL W H G) = W ∧ 16 * psH (Syn.seqL W H G) = H ∧ psG (Syn.seqL W H G) = G := by
  obtain ⟨a1, a2, a3⟩ := Syn.right_of hri
  have hl3 := Syn.len_seq hri
  rw [Syn.seqL_yes hri]
  obtain ⟨E, hE⟩ := Syn.row_pre (Syn.seqB W H G)
  have hrest := restB_end (Syn.seqB W H G)
  have hlp := Bit.length_pack (Syn.seqB W H G)
  have hSB : Syn.seqB W H G = Bit.digits 19273 16 ++ (Gol.codeB (W / 16 - 1).toNat ++ (Gol.codeB (H / 16 - 1).toNat ++ Gol.codeB (G - 1).toNat)) := by
    unfold Syn.seqB
    rw [List.append_assoc, List.append_assoc]
  generalize hl : Bit.pack (Syn.seqB W H G) = l at *
  obtain ⟨a, ha⟩ : ∃ a : Nat, (W / 16 - 1).toNat = a := ⟨_, rfl⟩
  obtain ⟨b, hb⟩ : ∃ a : Nat, (H / 16 - 1).toNat = a := ⟨_, rfl⟩
  obtain ⟨g, hg⟩ : ∃ a : Nat, (G - 1).toNat = a := ⟨_, rfl⟩
  rw [ha, hb, hg] at hSB
  have hrow : Bit.row l = Bit.digits 19273 16 ++ (Gol.codeB a ++ (Gol.codeB b ++ (Gol.codeB g ++ E))) := by
    rw [hE, hSB, List.append_assoc, List.append_assoc, List.append_assoc]
  have hlen : (Syn.seqB W H G).length = 16 + Gol.gl a + Gol.gl b + Gol.gl g := by
    rw [hSB]
    simp only [List.length_append, Bit.length_digits, Gol.length_codeB (show a ≤ 4294967294 by omega), Gol.length_codeB (show b ≤ 4294967294 by omega), Gol.length_codeB (show g ≤ 4294967294 by omega)]
    omega
  have e1 : getE (8 * l.length) 0 ((16 : Nat) : Int) = 0 := getE_ok (by omega) (by omega)
  have k1 : psK1 l = 16 := by
    show getK (8 * l.length) 0 ((16 : Nat) : Int) = 16
    unfold getK; rw [if_pos e1]; rfl
  have hv : getV l 0 16 = 19273 := by
    have h1 : getV l 0 ((16 : Nat) : Int) = Bit.get l 0 16 := by unfold getV; rw [if_pos e1]; rfl
    have h2 := get_row l 0 16 (by omega)
    rw [List.drop_zero, hrow, List.take_left' (by rw [Bit.length_digits])] at h2
    show getV l 0 ((16 : Nat) : Int) = 19273
    rw [h1, ← h2]; decide +kernel
  have b1 : bitsOf l (psK1 l) = Gol.codeB a ++ (Gol.codeB b ++ (Gol.codeB g ++ E)) := by
    show (Bit.row l).drop _ = _
    rw [k1, hrow]
    exact List.drop_left' (by rw [Bit.length_digits])
  obtain ⟨s1, s2, s3⟩ := st_code (v := a) (by omega) (E := psE1 l) e1 (Gol.codeB b ++ (Gol.codeB g ++ E))
  rw [← b1] at s1 s2 s3
  have k2 : psK2 l = 16 + Gol.gl a := by show psK1 l + stK _ _ = _; rw [s3, k1]
  have b2 : bitsOf l (psK2 l) = Gol.codeB b ++ (Gol.codeB g ++ E) := by
    have : bitsOf l (psK2 l) = (bitsOf l (psK1 l)).drop (Gol.gl a) := by rw [k2, k1]; simp [bitsOf, List.drop_drop]
    rw [this, b1]
    exact List.drop_left' (Gol.length_codeB (by omega))
  obtain ⟨t1, t2, t3⟩ := st_code (v := b) (by omega) (E := psE2 l) s1 (Gol.codeB g ++ E)
  rw [← b2] at t1 t2 t3
  have k3 : psK3 l = 16 + Gol.gl a + Gol.gl b := by show psK2 l + stK _ _ = _; rw [t3, k2]
  have b3 : bitsOf l (psK3 l) = Gol.codeB g ++ E := by
    have : bitsOf l (psK3 l) = (bitsOf l (psK2 l)).drop (Gol.gl b) := by rw [k3, k2]; simp [bitsOf, List.drop_drop]
    rw [this, b2]
    exact List.drop_left' (Gol.length_codeB (by omega))
  obtain ⟨u1, u2, u3⟩ := st_code (v := g) (by omega) (E := psE3 l) t1 E
  rw [← b3] at u1 u2 u3
  have k4 : psK4 l = (Syn.seqB W H G).length := by show psK3 l + stK _ _ = _; rw [u3, k3, hlen]
  have hW : 16 * psW l = W := by show 16 * stV _ _ = _; rw [s2]; omega
  have hH : 16 * psH l = H := by show 16 * stV _ _ = _; rw [t2]; omega
  have hG : psG l = G := by show stV _ _ = _; rw [u2]; omega
  refine ⟨?_, hW, hH, hG⟩
  unfold psOk
  rw [hW, hH, hG, hri, hv, k4, hrest, show psE4 l = 0 from u1, decide_eq_true (by omega)]; rfl
end Go.Proofs.Ytakglalebjkpeaa.C12
namespace Go.Proofs.Ytakglalebjkpeaa.C12
open Go.RowKit Kin

/-- a field: a number in so many bits, or its code -/
def FieldRow (row : List Value) : Prop := ∃ v n : Nat, row = [.int .i64 (v : Int), .int .i64 (n : Int)] ∧ v < 9223372036854775808 ∧ ((0 < n ∧ n ≤ 64 ∧ v < 2 ^ n) ∨ (n = 0 ∧ v ≤ 4294967294))
def fieldB : List Value → List Bool
  | [.int _ v, .int _ n] => if 0 < n then Bit.digits v.toNat n.toNat else Gol.codeB v.toNat
  | _ => []
def fieldsB (rows : List (List Value)) : List Bool := rows.flatMap fieldB
theorem fieldB_put (v n : Nat) (h : 0 < n) : fieldB [.int .i64 (v : Int), .int .i64 (n : Int)] = Bit.digits v n := by simp [fieldB, h]
theorem fieldB_code (v : Nat) : fieldB [.int .i64 (v : Int), .int .i64 ((0 : Nat) : Int)] = Gol.codeB v := by simp [fieldB]
theorem fieldsB_take (rows : List (List Value)) (i : Nat) (r : List Value) (h : rows[i]? = some r) : fieldsB (rows.take (i + 1)) = fieldsB (rows.take i) ++ fieldB r := by
  unfold fieldsB
  rw [List.take_add_one, h, Option.toList_some, List.flatMap_append]; simp
theorem length_fieldB {r : List Value} (h : FieldRow r) : (fieldB r).length ≤ 64 := by
  obtain ⟨v, n, rfl, _, h | h⟩ := h
  · rw [fieldB_put v n h.1, Bit.length_digits]; exact h.2.1
  · obtain ⟨rfl, hv⟩ := h
    rw [fieldB_code, Gol.length_codeB hv]; have := Gol.gl_le v; omega

set_option maxRecDepth 100000 in
set_option maxHeartbeats 4000000 in
theorem write_calls (A : Option Addr) (n c : Nat) (rows : List (List Value)) (w : World) (hn : n = rows.length) (hm : n ≤ 8) {B0 : Nat} (hA : Recs w B0 2 A rows) (hB0 : B0 ≤ w.heap.size) (hR : ∀ r ∈ rows, FieldRow r) :
    Calls Try.prog 39 #[.slice A n c] w (RetBytes w (Bit.pack (fieldsB rows))) := by
  have HN := hide hn
  have HR := hide hR
  clear hn hR
  go_enter Try.func39, Try.ntmps39
  go_wp2_with fail
  refine (new_calls _).mono ?_
  rintro e w1 ⟨rfl, hw1, b1⟩
  obtain ⟨gw, hgw⟩ : ∃ g, g = w.heap.size := ⟨_, rfl⟩
  rw [← hgw] at hw1
  rw [← hgw]
  have ggw : w.heap.size ≤ gw := by omega
  clear hgw
  go_wp2
  go_loopw [9] (fun iv wr => ∃ (i : Nat) (Rw : Option Nat), i ≤ n ∧ iv = .int .i64 (i : Int) ∧ WriterIs wr gw Rw (fieldsB (rows.take i)) ∧ (fieldsB (rows.take i)).length ≤ 64 * i ∧ (∀ r, Rw = some r → w.heap.size ≤ r) ∧ Below w.heap.size w wr) (fun iv _ => n - (intOf iv).toNat)
  case atStart => exact ⟨0, none, by omega, rfl, hw1, by simp [fieldsB], by simp, b1⟩
  case round =>
    obtain ⟨i, Rw, hi, rfl, hw, hB, gRw, bel⟩ := hrel
    clear hw1 b1
    by_cases hlt : i < n
    · have hix : i < rows.length := by rw [← HN.out]; exact hlt
      obtain ⟨b, off, rfl, hb, hl2, hcell⟩ := (hA.below (bel.mono hB0)).at_ hix
      have hfr := HR.out rows[i] (List.getElem_mem hix)
      have HT := hide (fieldsB_take rows i _ (List.getElem?_eq_getElem hix))
      have hlf := length_fieldB hfr
      have hl3 : (fieldsB (rows.take (i + 1))).length ≤ 64 * (i + 1) := by rw [HT.out, List.length_append]; omega
      obtain ⟨v, m, hrow, hv63, hcase⟩ := hfr
      rw [hrow] at hcell HT
      have a0 : wr.cell? ⟨b, off + i * 2, none⟩ = some (.int .i64 (v : Int)) := hcell 0 _ rfl
      have a1 := hcell 1 _ rfl
      have bA := Blk.new wr 67 #[.int .i64 (v : Int), .int .i64 (m : Int)]
      have hb1 : Below wr.heap.size wr (wr.alloc (.cells #[.int .i64 (v : Int), .int .i64 (m : Int)] 67)) := (Below.refl _ _).alloc (Nat.le_refl _) _
      have hw1 := hw.below hb1
      have bel1 := bel.trans (hb1.mono bel.size)
      have c0 : (wr.alloc (.cells #[.int .i64 (v : Int), .int .i64 (m : Int)] 67)).cell? ⟨wr.heap.size, 0, none⟩ = some (.int .i64 (v : Int)) := bA.cell 0
      have c1 : (wr.alloc (.cells #[.int .i64 (v : Int), .int .i64 (m : Int)] 67)).cell? ⟨wr.heap.size, 1, none⟩ = some (.int .i64 (m : Int)) := bA.cell 1
      clear hrow hcell hl2 hlf hw bel hb1 bA
      rcases hcase with ⟨h1, h2, h3⟩ | ⟨rfl, h2⟩
      · rw [fieldB_put v m h1] at HT
        have hm' : (0 : Int) < (m : Int) := by omega
        go_wp2_with fail
        generalize wr.alloc (.cells #[.int .i64 (v : Int), .int .i64 (m : Int)] 67) = W at *
        refine (put_calls gw Rw _ v m _ hw1 (by omega) h2 h3).mono ?_
        rintro e t2 ⟨rfl, R2, hw2, ch2, r2⟩
        rw [← HT.out] at hw2
        have bel2 := bel1.trans (ch2.below (Foot.ge ggw gRw) bel1.size)
        have gR2 := r2.ge gRw bel1.size
        go_wp2
        go_roundw
        case rel => exact ⟨i + 1, R2, by omega, by go_num, hw2, hl3, gR2, bel2⟩
        case measure => simp [intOf]; omega
      · rw [fieldB_code] at HT
        rw [show (((0 : Nat)) : Int) = 0 from rfl] at c1 a1
        rw [show (((0 : Nat)) : Int) = 0 from rfl] at c0 hw1 bel1
        go_wp2_with fail
        generalize wr.alloc (.cells #[.int .i64 (v : Int), .int .i64 0] 67) = W at *
        refine (gput_any gw Rw _ v _ hw1 (by omega) (by omega)).mono ?_
        rintro e t2 ⟨rfl, R2, hw2, ch2, r2⟩
        rw [gputB_ok h2, ← HT.out] at hw2
        have bel2 := bel1.trans (ch2.below (Foot.ge ggw gRw) bel1.size)
        have gR2 := r2.ge gRw bel1.size
        go_wp2
        go_roundw
        case rel => exact ⟨i + 1, R2, by omega, by go_num, hw2, hl3, gR2, bel2⟩
        case measure => simp [intOf]; omega
    · obtain rfl : i = n := by omega
      have ht : rows.take i = rows := List.take_of_length_le (by rw [← HN.out]; exact Nat.le_refl _)
      rw [ht] at hw hB
      have HPF := hide (Bit.pack_fill (fieldsB rows))
      have hLF : (Bit.fill (fieldsB rows)).length ≤ 2000 := by have := length_fill_le (fieldsB rows); omega
      rw [← HPF.out] 
      clear ht hlt
      go_wp2_with fail
      refine (walign_calls gw Rw _ _ hw (by omega)).mono ?_
      rintro e t2 ⟨rfl, hw2, ch2⟩
      have bel2 := bel.trans (ch2.below (Foot.ge ggw gRw) bel.size)
      go_wp2_with fail
      refine (wbytes_calls gw Rw _ _ hw2 (by omega)).mono ?_
      rintro e t3 ⟨A3, n3, c3, rfl, o3, g3, b3⟩
      go_wp2
      go_ret
      exact ⟨A3, n3, c3, rfl, by rw [← HPF.out]; exact o3, fun g hg => by have := g3 g hg; have := bel2.size; omega, bel2.trans (b3.mono bel2.size)⟩

theorem Recs.blk {w : World} {g : Nat} {t : TypeId} {cs : Array Value} {k : Nat} {rows : List (List Value)} (h : Blk w g t cs) (hk : ∀ r ∈ rows, r.length = k) (e : cs.toList = rows.flatten) : Recs w (g + 1) k (some ⟨g, 0, none⟩) rows := fun _ =>
  ⟨g, 0, rfl, by omega, fun i r hr => by
    have hrk := hk r (List.mem_of_getElem? hr)
    refine ⟨hrk, fun j v hj => ?_⟩
    have hjk : j < k := by rw [← hrk]; exact (List.getElem?_eq_some_iff.1 hj).1
    have h1 := flatten_at rows hk i j r hr hjk
    rw [h.cell, ← Array.getElem?_toList, e, Nat.zero_add, h1, hj]⟩

/-- bytes of the call's own and an error -/
def RetBE (w : World) (l : List UInt8) (E : Int) (e : Ending) (w' : World) : Prop :=
  ∃ A n c, e = .returned (.tuple #[.slice A n c, .int .i64 E]) ∧ Own8 w' 5 A n c l ∧ (∀ g, blkOf A = some g → w.heap.size ≤ g) ∧ Below w.heap.size w w'

set_option maxRecDepth 100000 in
set_option maxHeartbeats 4000000 in
theorem seq_calls (W H G : Int) (w : World) : Calls Try.prog 19 #[seqV W H G] w (RetBE w (Syn.seqL W H G) (Syn.seqE W H G)) := by
  have bS := Blk.new w 23 #[.int .i64 W, .int .i64 H, .int .i64 G]
  have bb0 : Below w.heap.size w (w.alloc (.cells #[.int .i64 W, .int .i64 H, .int .i64 G] 23)) := (Below.refl w.heap.size w).alloc (Nat.le_refl _) _
  cases hr : Syn.rightB W H G
  · rw [Syn.seqL_no hr, Syn.seqE_no hr]
    have HR := hide (right_calls W H G)
    rw [hr] at HR
    clear hr
    go_enter Try.func19, Try.ntmps19
    go_wp2_with fail
    refine (HR.out _).mono ?_
    rintro e w1 ⟨rfl, b1⟩
    go_wp2
    go_ret2
    exact ⟨none, 0, 0, rfl, Own8.nil _ _, by simp [blkOf], bnext bb0 b1⟩
  · rw [Syn.seqL_yes hr, Syn.seqE_yes hr]
    have HR := hide (right_calls W H G)
    rw [hr] at HR
    obtain ⟨⟨hw1, hw2, hw3⟩, ⟨hh1, hh2, hh3⟩, hg1, hg2⟩ := Syn.right_of hr
    clear hr
    obtain ⟨a, ha⟩ : ∃ a : Nat, W = 16 * ((a : Int) + 1) := ⟨(W / 16 - 1).toNat, by omega⟩
    obtain ⟨b, hb⟩ : ∃ b : Nat, H = 16 * ((b : Int) + 1) := ⟨(H / 16 - 1).toNat, by omega⟩
    obtain ⟨g, hg⟩ : ∃ g : Nat, G = (g : Int) + 1 := ⟨(G - 1).toNat, by omega⟩
    have hWa : W / 16 - 1 = (a : Int) := by omega
    have hHb : H / 16 - 1 = (b : Int) := by omega
    have hGg : G - 1 = (g : Int) := by omega
    have HSB : Hid (Syn.seqB W H G = fieldsB [[.int .i64 ((19273 : Nat) : Int), .int .i64 ((16 : Nat) : Int)], [.int .i64 (a : Int), .int .i64 ((0 : Nat) : Int)], [.int .i64 (b : Int), .int .i64 ((0 : Nat) : Int)], [.int .i64 (g : Int), .int .i64 ((0 : Nat) : Int)]]) := by
      show _ = _
      unfold Syn.seqB fieldsB
      rw [hWa, hHb, hGg, Int.toNat_natCast, Int.toNat_natCast, Int.toNat_natCast]
      simp only [List.flatMap_cons, List.flatMap_nil, fieldB_put 19273 16 (by omega), fieldB_code, List.append_nil, List.append_assoc]
    have HFR : Hid (∀ r ∈ [[Value.int .i64 ((19273 : Nat) : Int), .int .i64 ((16 : Nat) : Int)], [.int .i64 (a : Int), .int .i64 ((0 : Nat) : Int)], [.int .i64 (b : Int), .int .i64 ((0 : Nat) : Int)], [.int .i64 (g : Int), .int .i64 ((0 : Nat) : Int)]], FieldRow r) := by
      intro r hr
      simp only [List.mem_cons, List.mem_nil_iff, or_false] at hr
      rcases hr with rfl | rfl | rfl | rfl
      · exact ⟨19273, 16, rfl, by omega, .inl ⟨by omega, by omega, by omega⟩⟩
      · exact ⟨a, 0, rfl, by omega, .inr ⟨rfl, by omega⟩⟩
      · exact ⟨b, 0, rfl, by omega, .inr ⟨rfl, by omega⟩⟩
      · exact ⟨g, 0, rfl, by omega, .inr ⟨rfl, by omega⟩⟩
    rw [HSB.out]
    clear ha hb hg HSB
    go_enter Try.func19, Try.ntmps19
    go_wp2_with fail
    generalize w.alloc (.cells #[.int .i64 W, .int .i64 H, .int .i64 G] 23) = W0 at *
    refine (HR.out _).mono ?_
    rintro e w1 ⟨rfl, b1⟩
    have bb := bb0.trans (b1.mono bb0.size)
    have bS1 := bS.below b1 bS.lt
    have k0 : w1.cell? ⟨w.heap.size, 0, none⟩ = some (.int .i64 W) := bS1.cell 0
    have k1 : w1.cell? ⟨w.heap.size, 1, none⟩ = some (.int .i64 H) := bS1.cell 1
    have k2 : w1.cell? ⟨w.heap.size, 2, none⟩ = some (.int .i64 G) := bS1.cell 2
    clear bS bS1 HR b1 bb0
    go_wp2_with fail
    have hrec := Recs.blk (k := 2) (rows := [[Value.int .i64 ((19273 : Nat) : Int), .int .i64 ((16 : Nat) : Int)], [.int .i64 (a : Int), .int .i64 ((0 : Nat) : Int)], [.int .i64 (b : Int), .int .i64 ((0 : Nat) : Int)], [.int .i64 (g : Int), .int .i64 ((0 : Nat) : Int)]]) (Blk.new w1 68 #[.int .i64 19273, .int .i64 16, .int .i64 (a : Int), .int .i64 0, .int .i64 (b : Int), .int .i64 0, .int .i64 (g : Int), .int .i64 0]) (by simp) (by rfl)
    refine (write_calls _ 4 4 _ _ (by rfl) (by omega) hrec (by simp) HFR.out).mono ?_
    rintro e t3 ⟨A3, n3, c3, rfl, o3, g3, b3⟩
    go_wp2
    go_ret2
    have bb1 := bb.alloc bb.size (.cells #[.int .i64 19273, .int .i64 16, .int .i64 (a : Int), .int .i64 0, .int .i64 (b : Int), .int .i64 0, .int .i64 (g : Int), .int .i64 0] 68)
    exact ⟨A3, n3, c3, rfl, o3, fun q hq => by have := g3 q hq; have := bb1.size; omega, bb1.trans (b3.mono bb1.size)⟩

/-- own bytes with more behind -/
theorem own_more {w w1 w2 w3 : World} {e : TypeId} {A1 A3 : Option Addr} {n1 c1 n3 c3 : Nat} {X Y : List Bool} (_h1 : Own8 w1 e A1 n1 c1 (Bit.zo X)) (g1 : ∀ g, blkOf A1 = some g → w.heap.size ≤ g) (bel2 : Below w.heap.size w w2)
    (own3 : Own8 w3 e A3 n3 c3 (Bit.zo X ++ Bit.zo Y)) (grow3 : w2.grownBy w3 (blkOf A1)) (at3 : blkOf A3 = blkOf A1 ∨ blkOf A3 = some w2.heap.size) :
    Own8 w3 e A3 n3 c3 (Bit.zo (X ++ Y)) ∧ (∀ g, blkOf A3 = some g → w.heap.size ≤ g) ∧ Below w.heap.size w w3 := by
  refine ⟨by rw [Bit.zo_append]; exact own3, ?_, bel2.grown grow3 bel2.size g1⟩
  intro g hg
  rcases at3 with e | e
  · exact g1 g (by rw [← e]; exact hg)
  · rw [hg] at e; injection e with e; have := bel2.size; omega

set_option maxRecDepth 100000 in
set_option maxHeartbeats 4000000 in
theorem refseq_calls (W H G : Int) (w : World) : Calls Try.prog 29 #[seqV W H G] w (RetBE w (Syn.seqL W H G) (Syn.seqE W H G)) := by
  have bS := Blk.new w 23 #[.int .i64 W, .int .i64 H, .int .i64 G]
  have bb0 : Below w.heap.size w (w.alloc (.cells #[.int .i64 W, .int .i64 H, .int .i64 G] 23)) := (Below.refl w.heap.size w).alloc (Nat.le_refl _) _
  cases hr : Syn.rightB W H G
  · rw [Syn.seqL_no hr, Syn.seqE_no hr]
    have HR := hide (refright_calls W H G)
    rw [hr] at HR
    clear hr
    go_enter Try.func29, Try.ntmps29
    go_wp2_with fail
    refine (HR.out _).mono ?_
    rintro e w1 ⟨rfl, b1⟩
    go_wp2
    go_ret2
    exact ⟨none, 0, 0, rfl, Own8.nil _ _, by simp [blkOf], bnext bb0 b1⟩
  · rw [Syn.seqL_yes hr, Syn.seqE_yes hr]
    have HR := hide (refright_calls W H G)
    rw [hr] at HR
    obtain ⟨⟨hw1, hw2, hw3⟩, ⟨hh1, hh2, hh3⟩, hg1, hg2⟩ := Syn.right_of hr
    clear hr
    obtain ⟨a, ha⟩ : ∃ a : Nat, W / 16 - 1 = (a : Int) := ⟨(W / 16 - 1).toNat, by omega⟩
    obtain ⟨b, hb⟩ : ∃ b : Nat, H / 16 - 1 = (b : Int) := ⟨(H / 16 - 1).toNat, by omega⟩
    obtain ⟨g, hg⟩ : ∃ g : Nat, G - 1 = (g : Int) := ⟨(G - 1).toNat, by omega⟩
    have ha5 : a ≤ 255 := by omega
    have hb5 : b ≤ 255 := by omega
    have hg5 : g ≤ 63 := by omega
    have HSB : Hid (Syn.seqB W H G = Bit.digits 19273 16 ++ Gol.codeB a ++ Gol.codeB b ++ Gol.codeB g) := by
      show _ = _
      unfold Syn.seqB
      rw [ha, hb, hg, Int.toNat_natCast, Int.toNat_natCast, Int.toNat_natCast]
    have HCA := hide (code_calls a)
    have HCB := hide (code_calls b)
    have HCG := hide (code_calls g)
    have la : (Gol.codeB a).length ≤ 63 := by rw [Gol.length_codeB (by omega)]; exact Gol.gl_le _
    have lb : (Gol.codeB b).length ≤ 63 := by rw [Gol.length_codeB (by omega)]; exact Gol.gl_le _
    have lg : (Gol.codeB g).length ≤ 63 := by rw [Gol.length_codeB (by omega)]; exact Gol.gl_le _
    rw [HSB.out]
    have HD := hide (digits_calls 19273 16)
    have lD : (Bit.digits 19273 16).length ≤ 16 := by rw [Bit.length_digits]; omega
    generalize Gol.codeB a = CA at *
    generalize Gol.codeB b = CB at *
    generalize Gol.codeB g = CG at *
    generalize Bit.digits 19273 16 = DD at *
    clear HSB
    go_enter Try.func29, Try.ntmps29
    go_wp2_with fail
    generalize w.alloc (.cells #[.int .i64 W, .int .i64 H, .int .i64 G] 23) = W0 at *
    refine (HR.out _).mono ?_
    rintro e w1 ⟨rfl, b1⟩
    have bb1 := bb0.trans (b1.mono bb0.size)
    have bS1 := bS.below b1 bS.lt
    clear bS HR b1 bb0
    go_wp2_with fail
    refine (HD.out _ (by omega) (by omega)).mono ?_
    rintro e w2 ⟨A2, n2, c2, rfl, o2, g2, b2⟩
    have bb2 := bb1.trans (b2.mono bb1.size)
    have gg2 : ∀ q, blkOf A2 = some q → w.heap.size ≤ q := fun q hq => by have := g2 q hq; have := bb1.size; omega
    have bS2 := bS1.below b2 bS1.lt
    have k0 : w2.cell? ⟨w.heap.size, 0, none⟩ = some (.int .i64 W) := bS2.cell 0
    have hn2 : n2 ≤ 16 := by rw [o2.1, Bit.length_zo]; exact lD
    clear bS1 b2 g2 bb1
    go_wp2_with fail
    refine (HCA.out _ (by omega)).mono ?_
    rintro e w3 ⟨A3, n3, c3, rfl, o3, g3, b3⟩
    have o2' := o2.below b3 o2.lt
    have bb3 := bb2.trans (b3.mono bb2.size)
    have bS3 := bS2.below b3 bS2.lt
    have hn3 : n3 ≤ 63 := by rw [o3.1, Bit.length_zo]; exact la
    have ne2 : blkOf A2 ≠ some w.heap.size := by have := own_blk_ne o2'.2 bS3 (by decide); rwa [ownBlock_slice] at this
    have NE2 := hide ne2
    clear ne2
    go_wp2_with (at_builtin; refine wpList_append8 (by rfl) (.tmp 11) (.tmp 17) 31 5 (by rfl) bytesT _ _ _ _ (by rfl) o2' _ _ _ _ _ (by rfl) o3.byt o3.1 (by omega) ?_; intro A4 c4 w4 own4 grow4 at4; have bS4 := bS3.grown grow4 (Ne.symm NE2.out); have k4 : w4.cell? ⟨w.heap.size, 1, none⟩ = some (.int .i64 H) := bS4.cell 1)
    obtain ⟨o4, gg4, bb4⟩ := own_more o2' gg2 bb3 own4 grow4 at4
    clear o2 o2' o3 g3 b3 bb2 bb3 bS2 bS3 k0 own4 grow4 at4 gg2
    have hn4 : n2 + n3 ≤ 79 := by omega
    generalize n2 + n3 = n4 at *
    refine (HCB.out _ (by omega)).mono ?_
    rintro e w5 ⟨A5, n5, c5, rfl, o5, g5, b5⟩
    have o4' := o4.below b5 o4.lt
    have bb5 := bb4.trans (b5.mono bb4.size)
    have bS5 := bS4.below b5 bS4.lt
    have hn5 : n5 ≤ 63 := by rw [o5.1, Bit.length_zo]; exact lb
    have ne4 : blkOf A4 ≠ some w.heap.size := by have := own_blk_ne o4'.2 bS5 (by decide); rwa [ownBlock_slice] at this
    have NE4 := hide ne4
    clear ne4
    go_wp2_with (at_builtin; refine wpList_append8 (by rfl) (.tmp 19) (.tmp 25) 31 5 (by rfl) bytesT _ _ _ _ (by rfl) o4' _ _ _ _ _ (by rfl) o5.byt o5.1 (by omega) ?_; intro A6 c6 w6 own6 grow6 at6; have bS6 := bS5.grown grow6 (Ne.symm NE4.out); have k6 : w6.cell? ⟨w.heap.size, 2, none⟩ = some (.int .i64 G) := bS6.cell 2)
    obtain ⟨o6, gg6, bb6⟩ := own_more o4' gg4 bb5 own6 grow6 at6
    clear o4 o4' o5 g5 b5 bb4 bb5 bS4 bS5 k4 own6 grow6 at6 gg4
    have hn6 : n4 + n5 ≤ 142 := by omega
    generalize n4 + n5 = n6 at *
    refine (HCG.out _ (by omega)).mono ?_
    rintro e w7 ⟨A7, n7, c7, rfl, o7, g7, b7⟩
    have o6' := o6.below b7 o6.lt
    have bb7 := bb6.trans (b7.mono bb6.size)
    have bS7 := bS6.below b7 bS6.lt
    have hn7 : n7 ≤ 63 := by rw [o7.1, Bit.length_zo]; exact lg
    have ne6 : blkOf A6 ≠ some w.heap.size := by have := own_blk_ne o6'.2 bS7 (by decide); rwa [ownBlock_slice] at this
    have NE6 := hide ne6
    clear ne6
    go_wp2_with (at_builtin; refine wpList_append8 (by rfl) (.tmp 27) (.tmp 32) 31 5 (by rfl) bytesT _ _ _ _ (by rfl) o6' _ _ _ _ _ (by rfl) o7.byt o7.1 (by omega) ?_; intro A8 c8 w8 own8 grow8 at8; have bS8 := bS7.grown grow8 (Ne.symm NE6.out))
    obtain ⟨o8, gg8, bb8⟩ := own_more o6' gg6 bb7 own8 grow8 at8
    have HL8 : Hid (n6 + n7 = (DD ++ CA ++ CB ++ CG).length) := by rw [← Bit.length_zo]; exact o8.1
    refine (pack_calls A8 (n6 + n7) c8 (DD ++ CA ++ CB ++ CG) _ HL8.out (by omega) o8.byt).mono ?_
    rintro e w9 ⟨A9, n9, c9, rfl, o9, g9, b9⟩
    go_wp2
    go_ret2
    exact ⟨A9, n9, c9, rfl, o9, fun q hq => by have := g9 q hq; have := bb8.size; omega, bb8.trans (b9.mono bb8.size)⟩

theorem digits_one (K : Bool) : Bit.digits K.toNat 1 = [K] := by cases K <;> decide +kernel

end Go.Proofs.Ytakglalebjkpeaa.C12
