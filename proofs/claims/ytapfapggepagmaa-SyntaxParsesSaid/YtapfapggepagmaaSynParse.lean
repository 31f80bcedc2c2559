/- Sequences that are parsed: the program's reader of numbers, by its contract. Conditions: the objects are as the calls leave them. -/
import Derived.Test.YtapfapggepagmaaSynWalks
import Derived.Test.YtapfapggepagmaaGolGets
namespace Go.Proofs.Ytapfapggepagmaa
open Go.RowKit Kin

/-- what a parser holds: an error's box, a pointer's box, a reader -/
def PS (w : World) (ge gp gr rr : Nat) (l : List UInt8) (k : Nat) (E : Int) : Prop :=
  Blk w ge 27 #[.int .i64 E] ∧ Blk w gp 55 #[.pointer (some ⟨gr, 0, none⟩)] ∧ ReaderIs w gr rr l k
/-- its blocks that may change -/
def PSF (ge gr k : Nat) : Prop := k = ge ∨ k = gr
theorem PS.below {w w' : World} {ge gp gr rr k : Nat} {l : List UInt8} {E : Int} (h : PS w ge gp gr rr l k E) (hb : Below w.heap.size w w') : PS w' ge gp gr rr l k E :=
  ⟨h.1.below hb h.1.lt, h.2.1.below hb h.2.1.lt, h.2.2.below hb⟩
theorem PS.ne {w : World} {ge gp gr rr k : Nat} {l : List UInt8} {E : Int} (h : PS w ge gp gr rr l k E) : ge ≠ gr ∧ gp ≠ gr ∧ ge ≠ gp ∧ rr ≠ ge ∧ rr ≠ gp ∧ rr ≠ gr := by
  obtain ⟨h1, h2, h3⟩ := h
  refine ⟨h1.ne_ h3.1 (by decide), h2.ne_ h3.1 (by decide), h1.ne_ h2 (by decide), ?_, ?_, h3.ne⟩
  · have := own_blk_ne h3.2.1.2 h1 (by decide)
    intro e; subst e; exact this (by rw [ownBlock_slice]; rfl)
  · have := own_blk_ne h3.2.1.2 h2 (by decide)
    intro e; subst e; exact this (by rw [ownBlock_slice]; rfl)
/-- the reader has gone on -/
theorem PS.read {w w' : World} {ge gp gr rr k k' : Nat} {l : List UInt8} {E : Int} (h : PS w ge gp gr rr l k E) (hr : ReaderIs w' gr rr l k') (hc : Chg (One gr) w w') : PS w' ge gp gr rr l k' E ∧ Chg (PSF ge gr) w w' :=
  ⟨⟨hc.blk h.1 h.ne.1, hc.blk h.2.1 h.ne.2.1, hr⟩, hc.mono (fun _ _ e => .inr e)⟩
/-- the error is laid down -/
theorem PS.err {w : World} {ge gp gr rr k : Nat} {l : List UInt8} {E : Int} (h : PS w ge gp gr rr l k E) (E' : Int) : PS (w.setCell ⟨ge, 0, none⟩ (.int .i64 E')) ge gp gr rr l k E' := by
  have hn := h.ne
  refine ⟨by simpa using h.1.set_ 0 (.int .i64 E'), h.2.1.far (p := ⟨ge, 0, none⟩) (Ne.symm hn.2.2.1) _, h.2.2.1.far (p := ⟨ge, 0, none⟩) (Ne.symm hn.1) _, h.2.2.2.1.setFar (p := ⟨ge, 0, none⟩) (by simp [blkOf]; exact hn.2.2.2.1) _, h.2.2.2.2⟩

theorem gV_lt2 (B : List Bool) : Gol.gV B + 1 < 9223372036854775808 := by
  unfold Gol.gV
  split
  · rename_i h
    have h1 := Bit.num_lt (B.take (2 * Gol.gN B + 1))
    have h2 : Gol.gN B ≠ 32 := fun e => by unfold Gol.gE at h; rw [if_pos e] at h; omega
    have h3 := (Gol.gN_le B).1
    have h4 : 2 ^ (B.take (2 * Gol.gN B + 1)).length ≤ 2 ^ 63 := Nat.pow_le_pow_right (by omega) (by rw [List.length_take]; omega)
    omega
  · omega

theorem tw_false (B : List Bool) : ∀ n, n ≤ (B.takeWhile (! ·)).length → B.take n = List.replicate n false := by
  induction B with
  | nil => intro n h; simp at h; subst h; rfl
  | cons b B ih =>
    intro n h
    cases n with
    | zero => rfl
    | succ n =>
      cases b
      · rw [List.takeWhile_cons] at h
        simp only [Bool.not_false, if_true, List.length_cons] at h
        rw [List.take_succ_cons, ih n (by omega), List.replicate_succ]
      · simp at h
theorem num_zeros (n : Nat) : Bit.num (List.replicate n false) = 0 := by
  induction n with
  | zero => rfl
  | succ n ih => rw [List.replicate_succ', Bit.num_snoc, ih]; rfl
theorem gV_le (B : List Bool) : Gol.gV B ≤ 4294967294 := by
  unfold Gol.gV
  split
  · rename_i h
    have h2 : Gol.gN B ≠ 32 := fun e => by unfold Gol.gE at h; rw [if_pos e] at h; omega
    have h3 := (Gol.gN_le B).1
    have h5 : Gol.gN B ≤ (B.takeWhile (! ·)).length := by unfold Gol.gN; omega
    have e : B.take (2 * Gol.gN B + 1) = B.take (Gol.gN B) ++ (B.drop (Gol.gN B)).take (Gol.gN B + 1) := by
      rw [show 2 * Gol.gN B + 1 = Gol.gN B + (Gol.gN B + 1) from by omega, List.take_add]
    rw [e, tw_false B _ h5, Bit.num_append, num_zeros, Nat.zero_mul, Nat.zero_add]
    have h1 := Bit.num_lt ((B.drop (Gol.gN B)).take (Gol.gN B + 1))
    have h4 : 2 ^ ((B.drop (Gol.gN B)).take (Gol.gN B + 1)).length ≤ 2 ^ 32 := Nat.pow_le_pow_right (by omega) (by rw [List.length_take]; omega)
    omega
  · omega

def stE (E : Int) (B : List Bool) : Int := if E = 0 then Gol.gE B else E
def stV (E : Int) (B : List Bool) : Int := if E = 0 then (Gol.gV B : Int) + 1 else 0
def stK (E : Int) (B : List Bool) : Nat := if E = 0 then Gol.gK B else 0
set_option maxRecDepth 100000 in
set_option maxHeartbeats 2000000 in
theorem next1_calls (ge gp gr rr : Nat) (l : List UInt8) (k : Nat) (E : Int) (w : World) (h : PS w ge gp gr rr l k E) :
    Calls Try.prog 27 #[.pointer (some ⟨ge, 0, none⟩), .pointer (some ⟨gp, 0, none⟩)] w
      fun e w' => e = .returned (.int .i64 (stV E (bitsOf l k))) ∧ PS w' ge gp gr rr l (k + stK E (bitsOf l k)) (stE E (bitsOf l k)) ∧ Chg (PSF ge gr) w w' := by
  have c0 : w.cell? ⟨ge, 0, none⟩ = some (.int .i64 E) := h.1.cell 0
  have c1 : w.cell? ⟨gp, 0, none⟩ = some (.pointer (some ⟨gr, 0, none⟩)) := h.2.1.cell 0
  by_cases hE : E = 0
  · subst hE
    have HV : Hid (stV 0 (bitsOf l k) = (Gol.gV (bitsOf l k) : Int) + 1) := if_pos rfl
    have HE : Hid (stE 0 (bitsOf l k) = Gol.gE (bitsOf l k)) := if_pos rfl
    have HK : Hid (stK 0 (bitsOf l k) = Gol.gK (bitsOf l k)) := if_pos rfl
    rw [HV.out, HE.out, HK.out]
    have hv := gV_lt2 (bitsOf l k)
    have HG := hide (gget_any gr rr l k)
    clear HV HE HK
    generalize Gol.gE (bitsOf l k) = E1 at *
    generalize Gol.gV (bitsOf l k) = V1 at *
    go_enter Try.func27, Try.ntmps27
    go_wp2_with fail
    refine (HG.out _ h.2.2).mono ?_
    rintro e w1 ⟨rfl, hr1, ch1⟩
    obtain ⟨p1, cc1⟩ := h.read hr1 ch1
    have k0 : w1.cell? ⟨ge, 0, none⟩ = some (.int .i64 0) := p1.1.cell 0
    have kf := p1.1.frozen 0
    have p2 := p1.err E1
    have cc2 := cc1.setCell (p := ⟨ge, 0, none⟩) (.inl (.inl rfl)) (.int .i64 E1)
    clear h hr1 ch1 c0 c1 p1 cc1
    go_wp2
    go_ret
    exact ⟨rfl, p2, cc2⟩
  · have q : (E != 0) = true := by simpa using hE
    have HV : Hid (stV E (bitsOf l k) = 0) := if_neg hE
    have HE : Hid (stE E (bitsOf l k) = E) := if_neg hE
    have HK : Hid (stK E (bitsOf l k) = 0) := if_neg hE
    rw [HV.out, HE.out, HK.out, Nat.add_zero]
    clear hE
    go_enter Try.func27, Try.ntmps27
    go_wp2
    go_ret
    exact ⟨rfl, h, Chg.refl _ _⟩

/-- what the program finds in bytes: three numbers, the error, where it is -/
def psE1 (l : List UInt8) : Int := getE (8 * l.length) 0 16
def psK1 (l : List UInt8) : Nat := getK (8 * l.length) 0 16
def psE2 (l : List UInt8) : Int := stE (psE1 l) (bitsOf l (psK1 l))
def psK2 (l : List UInt8) : Nat := psK1 l + stK (psE1 l) (bitsOf l (psK1 l))
def psE3 (l : List UInt8) : Int := stE (psE2 l) (bitsOf l (psK2 l))
def psK3 (l : List UInt8) : Nat := psK2 l + stK (psE2 l) (bitsOf l (psK2 l))
def psE4 (l : List UInt8) : Int := stE (psE3 l) (bitsOf l (psK3 l))
def psK4 (l : List UInt8) : Nat := psK3 l + stK (psE3 l) (bitsOf l (psK3 l))
def psW (l : List UInt8) : Int := stV (psE1 l) (bitsOf l (psK1 l))
def psH (l : List UInt8) : Int := stV (psE2 l) (bitsOf l (psK2 l))
def psG (l : List UInt8) : Int := stV (psE3 l) (bitsOf l (psK3 l))
/-- is it a sequence? -/
def psOk (l : List UInt8) : Bool :=
  psE4 l == 0 && getV l 0 16 == 19273 && Syn.rightB (16 * psW l) (16 * psH l) (psG l) && Bit.restB (Bit.row l) (psK4 l) && decide (8 * ((psK4 l + 7) / 8) = 8 * l.length)
/-- what is answered -/
def psRW (l : List UInt8) : Int := if psOk l then 16 * psW l else 0
def psRH (l : List UInt8) : Int := if psOk l then 16 * psH l else 0
def psRG (l : List UInt8) : Int := if psOk l then psG l else 0
def psRE (l : List UInt8) : Int := if psOk l then 0 else 121

theorem stV_range (E : Int) (B : List Bool) : 0 ≤ stV E B ∧ stV E B ≤ 4294967295 := by
  unfold stV
  have := gV_le B
  split <;> omega

/-- three stores into the answer's block -/
theorem three_set {w V : World} {g : Nat} {a b c : Value} (h : Blk V g 23 #[a, b, c]) (hb : Below w.heap.size w V) (hg : w.heap.size ≤ g) (x y z : Value) :
    Blk (((V.setCell ⟨g, 0, none⟩ x).setCell ⟨g, 1, none⟩ y).setCell ⟨g, 2, none⟩ z) g 23 #[x, y, z] ∧ Below w.heap.size w (((V.setCell ⟨g, 0, none⟩ x).setCell ⟨g, 1, none⟩ y).setCell ⟨g, 2, none⟩ z) :=
  ⟨by simpa using ((h.set_ 0 x).set_ 1 y).set_ 2 z, ((hb.setCell (p := ⟨g, 0, none⟩) hg x).setCell (p := ⟨g, 1, none⟩) hg y).setCell (p := ⟨g, 2, none⟩) hg z⟩
theorem psR_no {l : List UInt8} (h : psOk l = false) : psRW l = 0 ∧ psRH l = 0 ∧ psRG l = 0 ∧ psRE l = 121 := by
  unfold psRW psRH psRG psRE
  rw [h]; exact ⟨rfl, rfl, rfl, rfl⟩
theorem psR_yes {l : List UInt8} (h : psOk l = true) : psRW l = 16 * psW l ∧ psRH l = 16 * psH l ∧ psRG l = psG l ∧ psRE l = 0 := by
  unfold psRW psRH psRG psRE
  rw [h]; exact ⟨rfl, rfl, rfl, rfl⟩
/-- a sequence that is answered -/
def RetSeq (w : World) (W H G E : Int) (e : Ending) (w' : World) : Prop := e = .returned (.tuple #[seqV W H G, .int .i64 E]) ∧ Below w.heap.size w w'
theorem seqZero : (Try.prog.info? 23).map (fun i => (i.zero, i.size)) = some (some (.agg #[.int .i64 0, .int .i64 0, .int .i64 0]), 3) := by kernel_rfl
set_option maxRecDepth 100000 in
set_option maxHeartbeats 4000000 in
theorem parseSeq_calls (A : Option Addr) (n c : Nat) (l : List UInt8) (w : World) (hn : n = l.length) (hm : n ≤ 1000000) {B0 : Nat} (hA : Byt w B0 A l) (hB0 : B0 ≤ w.heap.size) :
    Calls Try.prog 17 #[.slice A n c] w (RetSeq w (psRW l) (psRH l) (psRG l) (psRE l)) := by
  have hz := (zero_of_info seqZero).1
  have HN := hide hn
  clear hn
  have bb0 : Below w.heap.size w (w.alloc (.cells #[.int .i64 0, .int .i64 0, .int .i64 0] 23)) := (Below.refl w.heap.size w).alloc (Nat.le_refl _) _
  have bS := Blk.new w 23 #[.int .i64 0, .int .i64 0, .int .i64 0]
  go_enter Try.func17, Try.ntmps17
  go_wp2_with fail
  refine (open_calls _ _ _ l _ HN.out (by omega) (hA.below (bb0.mono hB0))).mono ?_
  rintro e w1 ⟨rfl, hr1, b1⟩
  have hb11 : Below w1.heap.size w1 (w1.alloc (.cells #[.pointer (some ⟨w.heap.size + 1 + 1, 0, none⟩)] 55)) := (Below.refl _ _).alloc (Nat.le_refl _) _
  rw [World.size_alloc] at hr1
  have hr11 := hr1.below hb11
  have bP := Blk.new w1 55 #[.pointer (some ⟨w.heap.size + 1 + 1, 0, none⟩)]
  have bS11 := (bS.below b1 bS.lt).below hb11 (by have := (bS.below b1 bS.lt).lt; omega)
  have bb11 := (bb0.trans (b1.mono bb0.size)).trans (hb11.mono (bb0.trans (b1.mono bb0.size)).size)
  have gN1 : w.heap.size ≤ w1.heap.size := (bb0.trans (b1.mono bb0.size)).size
  obtain ⟨gr, hgr⟩ : ∃ g, g = w.heap.size + 1 + 1 := ⟨_, rfl⟩
  obtain ⟨rr, hrr⟩ : ∃ g, g = w.heap.size + 1 := ⟨_, rfl⟩
  obtain ⟨gp, hgp⟩ : ∃ g, g = w1.heap.size := ⟨_, rfl⟩
  go_wp2_with fail
  rw [← hgr, ← hrr] at hr11
  rw [← hgr, ← hgp] at bP
  rw [← hgr] at bS11 bb11
  rw [← hgr, ← hgp]
  have ggr : w.heap.size ≤ gr := by omega
  generalize w1.alloc (.cells #[.pointer (some ⟨gr, 0, none⟩)] 55) = W1 at *
  clear hb11 hr1 b1 hgr hrr hgp bS bb0 gN1
  refine (get_any gr rr l 0 16 _ hr11).mono ?_
  rintro e w2 ⟨rfl, hr2, ch2⟩
  have bP2 := ch2.blk bP (bP.ne_ hr11.1 (by decide))
  have bS2 := ch2.blk bS11 (bS11.ne_ hr11.1 (by decide))
  have bb2 := bb11.trans (ch2.below (fun i h => by have h : i = gr := h; omega) bb11.size)
  clear hr11 ch2 bP bS11 bb11
  have hb3 : Below w2.heap.size w2 (w2.alloc (.cells #[.int .i64 (psE1 l)] 27)) := (Below.refl _ _).alloc (Nat.le_refl _) _
  have P3 : PS (w2.alloc (.cells #[.int .i64 (psE1 l)] 27)) w2.heap.size gp gr rr l (psK1 l) (psE1 l) := ⟨Blk.new _ _ _, bP2.below hb3 bP2.lt, hr2.below hb3⟩
  have bS3 := bS2.below hb3 bS2.lt
  have bb3 := bb2.trans (hb3.mono bb2.size)
  have ge0 : w.heap.size ≤ w2.heap.size := bb2.size
  rw [show getE (8 * l.length) 0 16 = psE1 l from rfl]
  obtain ⟨ge, hge⟩ : ∃ g, g = w2.heap.size := ⟨_, rfl⟩
  rw [← hge] at P3 ge0
  clear bP2 hr2 bS2 bb2 hb3
  have HW : Hid (psW l = stV (psE1 l) (bitsOf l (psK1 l))) := rfl
  have HE2 : Hid (psE2 l = stE (psE1 l) (bitsOf l (psK1 l))) := rfl
  have HK2 : Hid (psK2 l = psK1 l + stK (psE1 l) (bitsOf l (psK1 l))) := rfl
  have HH : Hid (psH l = stV (psE2 l) (bitsOf l (psK2 l))) := rfl
  have HE3 : Hid (psE3 l = stE (psE2 l) (bitsOf l (psK2 l))) := rfl
  have HK3 : Hid (psK3 l = psK2 l + stK (psE2 l) (bitsOf l (psK2 l))) := rfl
  have HG : Hid (psG l = stV (psE3 l) (bitsOf l (psK3 l))) := rfl
  have HE4 : Hid (psE4 l = stE (psE3 l) (bitsOf l (psK3 l))) := rfl
  have HK4 : Hid (psK4 l = psK3 l + stK (psE3 l) (bitsOf l (psK3 l))) := rfl
  generalize psE1 l = E1 at *
  go_wp2_with fail
  rw [← hge]
  generalize w2.alloc (.cells #[.int .i64 E1] 27) = W3 at *
  clear hge
  refine (next1_calls ge gp gr rr l _ _ _ P3).mono ?_
  rintro e W4 ⟨rfl, P4, cc4⟩
  rw [← HE2.out, ← HK2.out] at P4
  rw [← HW.out]
  have bS4 := cc4.blk bS3 (fun h => by rcases h with h | h; exact bS3.ne_ P3.1 (by decide) h; exact bS3.ne_ P3.2.2.1 (by decide) h)
  have bb4 := bb3.trans (cc4.below (fun i h => by rcases h with h | h <;> omega) bb3.size)
  clear P3 cc4 bS3 bb3
  go_wp2_with fail
  refine (next1_calls ge gp gr rr l _ _ _ P4).mono ?_
  rintro e W5 ⟨rfl, P5, cc5⟩
  rw [← HE3.out, ← HK3.out] at P5
  rw [← HH.out]
  have bS5 := cc5.blk bS4 (fun h => by rcases h with h | h; exact bS4.ne_ P4.1 (by decide) h; exact bS4.ne_ P4.2.2.1 (by decide) h)
  have bb5 := bb4.trans (cc5.below (fun i h => by rcases h with h | h <;> omega) bb4.size)
  clear P4 cc5 bS4 bb4
  go_wp2_with fail
  refine (next1_calls ge gp gr rr l _ _ _ P5).mono ?_
  rintro e W6 ⟨rfl, P6, cc6⟩
  rw [← HE4.out, ← HK4.out] at P6
  rw [← HG.out]
  have bS6 := cc6.blk bS5 (fun h => by rcases h with h | h; exact bS5.ne_ P5.1 (by decide) h; exact bS5.ne_ P5.2.2.1 (by decide) h)
  have bb6 := bb5.trans (cc6.below (fun i h => by rcases h with h | h <;> omega) bb5.size)
  clear P5 cc6 bS5 bb5
  have rW : 0 ≤ psW l ∧ psW l ≤ 4294967295 := by rw [HW.out]; exact stV_range _ _
  have rH : 0 ≤ psH l ∧ psH l ≤ 4294967295 := by rw [HH.out]; exact stV_range _ _
  have rG : 0 ≤ psG l ∧ psG l ≤ 4294967295 := by rw [HG.out]; exact stV_range _ _
  have HOK : Hid (psOk l = (psE4 l == 0 && getV l 0 16 == 19273 && Syn.rightB (16 * psW l) (16 * psH l) (psG l) && Bit.restB (Bit.row l) (psK4 l) && decide (8 * ((psK4 l + 7) / 8) = 8 * l.length))) := rfl
  clear HW HE2 HK2 HH HE3 HK3 HG HE4 HK4
  generalize hvW : psW l = vW at *
  have HvW := hide hvW
  clear hvW
  generalize hvH : psH l = vH at *
  have HvH := hide hvH
  clear hvH
  generalize hvG : psG l = vG at *
  have HvG := hide hvG
  clear hvG
  generalize psE4 l = E4 at *
  generalize psK4 l = K4 at *
  generalize getV l 0 16 = hd at *
  obtain ⟨rW1, rW2⟩ := rW
  obtain ⟨rH1, rH2⟩ := rH
  obtain ⟨rG1, rG2⟩ := rG
  have hb7 : Below W6.heap.size W6 (W6.alloc (.cells #[.int .i64 (vW * 16), .int .i64 (vH * 16), .int .i64 vG] 23)) := (Below.refl _ _).alloc (Nat.le_refl _) _
  have bN := Blk.new W6 23 #[.int .i64 (vW * 16), .int .i64 (vH * 16), .int .i64 vG]
  have P7 := P6.below hb7
  have bS7 := bS6.below hb7 bS6.lt
  have bb7 := bb6.trans (hb7.mono bb6.size)
  clear P6 bS6 bb6 hb7
  have c0 : (W6.alloc (.cells #[.int .i64 (vW * 16), .int .i64 (vH * 16), .int .i64 vG] 23)).cell? ⟨ge, 0, none⟩ = some (.int .i64 E4) := P7.1.cell 0
  have s0 : (W6.alloc (.cells #[.int .i64 (vW * 16), .int .i64 (vH * 16), .int .i64 vG] 23)).cell? ⟨w.heap.size, 0, none⟩ = some (.int .i64 0) := bS7.cell 0
  have s1 : (W6.alloc (.cells #[.int .i64 (vW * 16), .int .i64 (vH * 16), .int .i64 vG] 23)).cell? ⟨w.heap.size, 1, none⟩ = some (.int .i64 0) := bS7.cell 1
  have s2 : (W6.alloc (.cells #[.int .i64 (vW * 16), .int .i64 (vH * 16), .int .i64 vG] 23)).cell? ⟨w.heap.size, 2, none⟩ = some (.int .i64 0) := bS7.cell 2
  have sf0 := bS7.frozen 0
  have sf1 := bS7.frozen 1
  have sf2 := bS7.frozen 2
  by_cases h1 : E4 = 0
  · subst h1
    have q1 : ((0 : Int) != 0) = false := by decide
    by_cases h2 : hd = 19273
    · subst h2
      have q2 : ((((19273 : Nat) : Int)) != 19273) = false := by decide
      rw [show (((19273 : Nat)) : Int) = 19273 from rfl]
      have HRC := hide (right_calls (vW * 16) (vH * 16) vG)
      have ecom : 16 * vW = vW * 16 ∧ 16 * vH = vH * 16 := ⟨by omega, by omega⟩
      rw [ecom.1, ecom.2] at HOK
      have k0 : (W6.alloc (.cells #[.int .i64 (vW * 16), .int .i64 (vH * 16), .int .i64 vG] 23)).cell? ⟨W6.heap.size, 0, none⟩ = some (.int .i64 (vW * 16)) := bN.cell 0
      have k1 : (W6.alloc (.cells #[.int .i64 (vW * 16), .int .i64 (vH * 16), .int .i64 vG] 23)).cell? ⟨W6.heap.size, 1, none⟩ = some (.int .i64 (vH * 16)) := bN.cell 1
      have k2 : (W6.alloc (.cells #[.int .i64 (vW * 16), .int .i64 (vH * 16), .int .i64 vG] 23)).cell? ⟨W6.heap.size, 2, none⟩ = some (.int .i64 vG) := bN.cell 2
      clear s0 s1 s2 sf0 sf1 sf2 ecom
      go_wp2_with fail
      obtain ⟨gn, hgn⟩ : ∃ g, g = W6.heap.size := ⟨_, rfl⟩
      rw [← hgn] at bN
      rw [← hgn]
      generalize W6.alloc (.cells #[.int .i64 (vW * 16), .int .i64 (vH * 16), .int .i64 vG] 23) = W7 at *
      clear hgn k0 k1 k2 c0
      refine (HRC.out _).mono ?_
      rintro e W8 ⟨rfl, b8⟩
      have P8 := P7.below b8
      have bS8 := bS7.below b8 bS7.lt
      have bN8 := bN.below b8 bN.lt
      have bb8 := bb7.trans (b8.mono bb7.size)
      clear P7 bS7 bN bb7 b8 HRC
      have p0 : W8.cell? ⟨gp, 0, none⟩ = some (.pointer (some ⟨gr, 0, none⟩)) := P8.2.1.cell 0
      have s0 : W8.cell? ⟨w.heap.size, 0, none⟩ = some (.int .i64 0) := bS8.cell 0
      have s1 : W8.cell? ⟨w.heap.size, 1, none⟩ = some (.int .i64 0) := bS8.cell 1
      have s2 : W8.cell? ⟨w.heap.size, 2, none⟩ = some (.int .i64 0) := bS8.cell 2
      have sf0 := bS8.frozen 0
      have sf1 := bS8.frozen 1
      have sf2 := bS8.frozen 2
      cases hri : Syn.rightB (vW * 16) (vH * 16) vG
      · have HF : Hid (psOk l = false) := by show _ = _; rw [HOK.out, hri]; simp
        clear hri
        go_wp2
        obtain ⟨bF, bbF⟩ := three_set bS8 bb8 (Nat.le_refl _) (.int .i64 0) (.int .i64 0) (.int .i64 0)
        clear s0 s1 s2 sf0 sf1 sf2
        generalize (((W8).setCell ⟨w.heap.size, 0, none⟩ (.int .i64 0)).setCell ⟨w.heap.size, 1, none⟩ (.int .i64 0)).setCell ⟨w.heap.size, 2, none⟩ (.int .i64 0) = F at *
        have k0 : F.cell? ⟨w.heap.size, 0, none⟩ = some (.int .i64 0) := bF.cell 0
        have k1 : F.cell? ⟨w.heap.size, 1, none⟩ = some (.int .i64 0) := bF.cell 1
        have k2 : F.cell? ⟨w.heap.size, 2, none⟩ = some (.int .i64 0) := bF.cell 2
        refine bodyPost_ret (v := .tuple #[seqV 0 0 0, .int .i64 121]) (by simp [results, Try.results17, go_sem, k0, k1, k2]) rfl ?_
        obtain ⟨r1, r2, r3, r4⟩ := psR_no HF.out
        rw [r1, r2, r3, r4]
        exact ⟨rfl, bbF⟩
      · clear s0 s1 s2 sf0 sf1 sf2
        rw [hri] at HOK
        clear hri
        go_wp2_with fail
        refine (ralign_any gr rr l K4 _ P8.2.2).mono ?_
        rintro e W9 ⟨rfl, hr9, ch9⟩
        obtain ⟨P9, cc9⟩ := P8.read hr9 ch9
        have bS9 := ch9.blk bS8 (bS8.ne_ P8.2.2.1 (by decide))
        have bN9 := ch9.blk bN8 (bN8.ne_ P8.2.2.1 (by decide))
        have bb9 := bb8.trans (ch9.below (fun i h => by have h : i = gr := h; omega) bb8.size)
        clear hr9 ch9 cc9 P8 bS8 bN8 bb8 p0
        have p0 : W9.cell? ⟨gp, 0, none⟩ = some (.pointer (some ⟨gr, 0, none⟩)) := P9.2.1.cell 0
        have s0 : W9.cell? ⟨w.heap.size, 0, none⟩ = some (.int .i64 0) := bS9.cell 0
        have s1 : W9.cell? ⟨w.heap.size, 1, none⟩ = some (.int .i64 0) := bS9.cell 1
        have s2 : W9.cell? ⟨w.heap.size, 2, none⟩ = some (.int .i64 0) := bS9.cell 2
        have sf0 := bS9.frozen 0
        have sf1 := bS9.frozen 1
        have sf2 := bS9.frozen 2
        cases hrb : Bit.restB (Bit.row l) K4
        · have HF : Hid (psOk l = false) := by show _ = _; rw [HOK.out, hrb]; simp
          rw [show alE false = 11 from rfl]
          clear hrb
          go_wp2
          obtain ⟨bF, bbF⟩ := three_set bS9 bb9 (Nat.le_refl _) (.int .i64 0) (.int .i64 0) (.int .i64 0)
          clear s0 s1 s2 sf0 sf1 sf2
          generalize (((W9).setCell ⟨w.heap.size, 0, none⟩ (.int .i64 0)).setCell ⟨w.heap.size, 1, none⟩ (.int .i64 0)).setCell ⟨w.heap.size, 2, none⟩ (.int .i64 0) = F at *
          have k0 : F.cell? ⟨w.heap.size, 0, none⟩ = some (.int .i64 0) := bF.cell 0
          have k1 : F.cell? ⟨w.heap.size, 1, none⟩ = some (.int .i64 0) := bF.cell 1
          have k2 : F.cell? ⟨w.heap.size, 2, none⟩ = some (.int .i64 0) := bF.cell 2
          refine bodyPost_ret (v := .tuple #[seqV 0 0 0, .int .i64 121]) (by simp [results, Try.results17, go_sem, k0, k1, k2]) rfl ?_
          obtain ⟨r1, r2, r3, r4⟩ := psR_no HF.out
          rw [r1, r2, r3, r4]
          exact ⟨rfl, bbF⟩
        · rw [show alE true = 0 from rfl]
          rw [hrb] at HOK P9
          rw [show alK true K4 = 8 * ((K4 + 7) / 8) from rfl] at P9
          clear hrb s0 s1 s2 sf0 sf1 sf2
          go_wp2_with fail
          refine (left_calls gr rr l _ _ P9.2.2).mono ?_
          rintro e W10' ⟨rfl, hW10⟩
          have b10 : Below W9.heap.size W9 W10' := by rw [← hW10]; exact (Below.refl _ _).drew
          have bS10 := bS9.below b10 bS9.lt
          have bN10 := bN9.below b10 bN9.lt
          have bb10 := bb9.trans (b10.mono bb9.size)
          have hkk := P9.2.2.2.2.1
          clear hW10 P9 bS9 bN9 bb9 b10 p0
          obtain ⟨W10, rfl⟩ : ∃ x, x = W10' := ⟨_, rfl⟩
          have s0 : W10.cell? ⟨w.heap.size, 0, none⟩ = some (.int .i64 0) := bS10.cell 0
          have s1 : W10.cell? ⟨w.heap.size, 1, none⟩ = some (.int .i64 0) := bS10.cell 1
          have s2 : W10.cell? ⟨w.heap.size, 2, none⟩ = some (.int .i64 0) := bS10.cell 2
          have sf0 := bS10.frozen 0
          have sf1 := bS10.frozen 1
          have sf2 := bS10.frozen 2
          have m0 : W10.cell? ⟨gn, 0, none⟩ = some (.int .i64 (vW * 16)) := bN10.cell 0
          have m1 : W10.cell? ⟨gn, 1, none⟩ = some (.int .i64 (vH * 16)) := bN10.cell 1
          have m2 : W10.cell? ⟨gn, 2, none⟩ = some (.int .i64 vG) := bN10.cell 2
          generalize hkq : 8 * ((K4 + 7) / 8) = kq at *
          by_cases h5 : kq = 8 * l.length
          · have q5 : ((8 * (l.length : Int) - (kq : Int)) != 0) = false := by simp; omega
            have HF : Hid (psOk l = true) := by
              have e : decide (kq = 8 * l.length) = true := decide_eq_true h5
              show _ = _
              rw [HOK.out, e]; rfl
            clear hkq h5 hkk
            go_wp2
            obtain ⟨bF, bbF⟩ := three_set bS10 bb10 (Nat.le_refl _) (.int .i64 (vW * 16)) (.int .i64 (vH * 16)) (.int .i64 vG)
            clear s0 s1 s2 sf0 sf1 sf2 m0 m1 m2
            generalize ((W10.setCell ⟨w.heap.size, 0, none⟩ (.int .i64 (vW * 16))).setCell ⟨w.heap.size, 1, none⟩ (.int .i64 (vH * 16))).setCell ⟨w.heap.size, 2, none⟩ (.int .i64 vG) = F at *
            have k0 : F.cell? ⟨w.heap.size, 0, none⟩ = some (.int .i64 (vW * 16)) := bF.cell 0
            have k1 : F.cell? ⟨w.heap.size, 1, none⟩ = some (.int .i64 (vH * 16)) := bF.cell 1
            have k2 : F.cell? ⟨w.heap.size, 2, none⟩ = some (.int .i64 vG) := bF.cell 2
            refine bodyPost_ret (v := .tuple #[seqV (vW * 16) (vH * 16) vG, .int .i64 0]) (by simp [results, Try.results17, go_sem, k0, k1, k2]) rfl ?_
            obtain ⟨r1, r2, r3, r4⟩ := psR_yes HF.out
            rw [r1, r2, r3, r4, HvW.out, HvH.out, HvG.out, show 16 * vW = vW * 16 from by omega, show 16 * vH = vH * 16 from by omega]
            exact ⟨rfl, bbF⟩
          · have q5 : ((8 * (l.length : Int) - (kq : Int)) != 0) = true := by simp; omega
            have HF : Hid (psOk l = false) := by
              have e : decide (kq = 8 * l.length) = false := decide_eq_false h5
              show _ = _
              rw [HOK.out, e]; simp
            clear hkq h5 hkk m0 m1 m2
            go_wp2
            obtain ⟨bF, bbF⟩ := three_set bS10 bb10 (Nat.le_refl _) (.int .i64 0) (.int .i64 0) (.int .i64 0)
            clear s0 s1 s2 sf0 sf1 sf2
            generalize ((W10.setCell ⟨w.heap.size, 0, none⟩ (.int .i64 0)).setCell ⟨w.heap.size, 1, none⟩ (.int .i64 0)).setCell ⟨w.heap.size, 2, none⟩ (.int .i64 0) = F at *
            have k0 : F.cell? ⟨w.heap.size, 0, none⟩ = some (.int .i64 0) := bF.cell 0
            have k1 : F.cell? ⟨w.heap.size, 1, none⟩ = some (.int .i64 0) := bF.cell 1
            have k2 : F.cell? ⟨w.heap.size, 2, none⟩ = some (.int .i64 0) := bF.cell 2
            refine bodyPost_ret (v := .tuple #[seqV 0 0 0, .int .i64 121]) (by simp [results, Try.results17, go_sem, k0, k1, k2]) rfl ?_
            obtain ⟨r1, r2, r3, r4⟩ := psR_no HF.out
            rw [r1, r2, r3, r4]
            exact ⟨rfl, bbF⟩
    · have q2 : ((hd : Int) != 19273) = true := by simp; omega
      have HF : Hid (psOk l = false) := by
        have e : (hd == 19273) = false := by simpa using h2
        show _ = _
        rw [HOK.out, e]; simp
      go_wp2
      obtain ⟨bF, bbF⟩ := three_set bS7 bb7 (Nat.le_refl _) (.int .i64 0) (.int .i64 0) (.int .i64 0)
      clear s0 s1 s2 sf0 sf1 sf2
      generalize (((W6.alloc (.cells #[.int .i64 (vW * 16), .int .i64 (vH * 16), .int .i64 vG] 23)).setCell ⟨w.heap.size, 0, none⟩ (.int .i64 0)).setCell ⟨w.heap.size, 1, none⟩ (.int .i64 0)).setCell ⟨w.heap.size, 2, none⟩ (.int .i64 0) = F at *
      have k0 : F.cell? ⟨w.heap.size, 0, none⟩ = some (.int .i64 0) := bF.cell 0
      have k1 : F.cell? ⟨w.heap.size, 1, none⟩ = some (.int .i64 0) := bF.cell 1
      have k2 : F.cell? ⟨w.heap.size, 2, none⟩ = some (.int .i64 0) := bF.cell 2
      refine bodyPost_ret (v := .tuple #[seqV 0 0 0, .int .i64 121]) (by simp [results, Try.results17, go_sem, k0, k1, k2]) rfl ?_
      obtain ⟨r1, r2, r3, r4⟩ := psR_no HF.out
      rw [r1, r2, r3, r4]
      exact ⟨rfl, bbF⟩
  · have q1 : (E4 != 0) = true := by simpa using h1
    have HF : Hid (psOk l = false) := by
      have e : (E4 == 0) = false := by simpa using h1
      show _ = _
      rw [HOK.out, e]; simp
    go_wp2
    obtain ⟨bF, bbF⟩ := three_set bS7 bb7 (Nat.le_refl _) (.int .i64 0) (.int .i64 0) (.int .i64 0)
    clear s0 s1 s2 sf0 sf1 sf2
    generalize (((W6.alloc (.cells #[.int .i64 (vW * 16), .int .i64 (vH * 16), .int .i64 vG] 23)).setCell ⟨w.heap.size, 0, none⟩ (.int .i64 0)).setCell ⟨w.heap.size, 1, none⟩ (.int .i64 0)).setCell ⟨w.heap.size, 2, none⟩ (.int .i64 0) = F at *
    have k0 : F.cell? ⟨w.heap.size, 0, none⟩ = some (.int .i64 0) := bF.cell 0
    have k1 : F.cell? ⟨w.heap.size, 1, none⟩ = some (.int .i64 0) := bF.cell 1
    have k2 : F.cell? ⟨w.heap.size, 2, none⟩ = some (.int .i64 0) := bF.cell 2
    refine bodyPost_ret (v := .tuple #[seqV 0 0 0, .int .i64 121]) (by simp [results, Try.results17, go_sem, k0, k1, k2]) rfl ?_
    obtain ⟨r1, r2, r3, r4⟩ := psR_no HF.out
    rw [r1, r2, r3, r4]
    exact ⟨rfl, bbF⟩
end Go.Proofs.Ytapfapggepagmaa
