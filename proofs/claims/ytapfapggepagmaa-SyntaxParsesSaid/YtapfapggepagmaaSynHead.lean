/- Headers that are parsed: the program's reader of fields, by its contract. Conditions: the objects are as the calls leave them. -/
import Derived.Test.YtapfapggepagmaaSynParse
import Derived.Test.YtapfapggepagmaaHeld
namespace Go.Proofs.Ytapfapggepagmaa
open Go.RowKit Kin

/-- a field that is read: of n bits, or, of none, a code -/
def fdE (E : Int) (l : List UInt8) (k n : Nat) : Int := if E = 0 then (if 0 < n then getE (8 * l.length) k n else Gol.gE (bitsOf l k)) else E
def fdV (E : Int) (l : List UInt8) (k n : Nat) : Nat := if E = 0 then (if 0 < n then getV l k n else Gol.gV (bitsOf l k)) else 0
def fdK (E : Int) (l : List UInt8) (k n : Nat) : Nat := if E = 0 then (if 0 < n then getK (8 * l.length) k n else k + Gol.gK (bitsOf l k)) else k
theorem getV_lt (l : List UInt8) (k n : Nat) (hn : n ≤ 62) : getV l k n < 9223372036854775808 := by
  unfold getV
  split
  · have h1 := Bit.get_lt l k (n : Int).toNat
    have h2 : 2 ^ (n : Int).toNat ≤ 2 ^ 62 := Nat.pow_le_pow_right (by omega) (by omega)
    omega
  · omega
set_option maxRecDepth 100000 in
set_option maxHeartbeats 2000000 in
theorem next2_calls (ge gp gr rr : Nat) (l : List UInt8) (k n : Nat) (E : Int) (w : World) (h : PS w ge gp gr rr l k E) (hn : n ≤ 62) :
    Calls Try.prog 31 #[.int .i64 (n : Int), .pointer (some ⟨ge, 0, none⟩), .pointer (some ⟨gp, 0, none⟩)] w
      fun e w' => e = .returned (.int .i64 (fdV E l k n : Int)) ∧ PS w' ge gp gr rr l (fdK E l k n) (fdE E l k n) ∧ Chg (PSF ge gr) w w' := by
  have c0 : w.cell? ⟨ge, 0, none⟩ = some (.int .i64 E) := h.1.cell 0
  have c1 : w.cell? ⟨gp, 0, none⟩ = some (.pointer (some ⟨gr, 0, none⟩)) := h.2.1.cell 0
  by_cases hE : E = 0
  · subst hE
    by_cases h0 : 0 < n
    · have HV : Hid (fdV 0 l k n = getV l k n) := by unfold fdV; rw [if_pos rfl, if_pos h0]; exact rfl
      have HE : Hid (fdE 0 l k n = getE (8 * l.length) k n) := by unfold fdE; rw [if_pos rfl, if_pos h0]; exact rfl
      have HK : Hid (fdK 0 l k n = getK (8 * l.length) k n) := by unfold fdK; rw [if_pos rfl, if_pos h0]; exact rfl
      rw [HV.out, HE.out, HK.out]
      have hv := getV_lt l k n hn
      have HG := hide (get_any gr rr l k n)
      have hn0 : (0 : Int) < (n : Int) := by omega
      clear HV HE HK
      generalize getE (8 * l.length) k n = E1 at *
      generalize getV l k n = V1 at *
      go_enter Try.func31, Try.ntmps31
      go_wp2_with fail
      refine (HG.out _ h.2.2).mono ?_
      rintro e w1 ⟨rfl, hr1, ch1⟩
      obtain ⟨p1, cc1⟩ := h.read hr1 ch1
      have k0 : w1.cell? ⟨ge, 0, none⟩ = some (.int .i64 0) := p1.1.cell 0
      have kf := p1.1.frozen 0
      have p2 := p1.err E1
      have cc2 := cc1.setCell (p := ⟨ge, 0, none⟩) (.inl (.inl rfl)) (.int .i64 E1)
      clear h hr1 ch1 c0 c1 p1 cc1
      go_wp2
      go_ret
      exact ⟨rfl, p2, cc2⟩
    · obtain rfl : n = 0 := by omega
      have HV : Hid (fdV 0 l k 0 = Gol.gV (bitsOf l k)) := rfl
      have HE : Hid (fdE 0 l k 0 = Gol.gE (bitsOf l k)) := rfl
      have HK : Hid (fdK 0 l k 0 = k + Gol.gK (bitsOf l k)) := rfl
      rw [HV.out, HE.out, HK.out]
      have hv := gV_lt2 (bitsOf l k)
      have HG := hide (gget_any gr rr l k)
      rw [show (((0 : Nat)) : Int) = 0 from rfl]
      clear HV HE HK
      generalize Gol.gE (bitsOf l k) = E1 at *
      generalize Gol.gV (bitsOf l k) = V1 at *
      go_enter Try.func31, Try.ntmps31
      go_wp2_with fail
      refine (HG.out _ h.2.2).mono ?_
      rintro e w1 ⟨rfl, hr1, ch1⟩
      obtain ⟨p1, cc1⟩ := h.read hr1 ch1
      have k0 : w1.cell? ⟨ge, 0, none⟩ = some (.int .i64 0) := p1.1.cell 0
      have kf := p1.1.frozen 0
      have p2 := p1.err E1
      have cc2 := cc1.setCell (p := ⟨ge, 0, none⟩) (.inl (.inl rfl)) (.int .i64 E1)
      clear h hr1 ch1 c0 c1 p1 cc1
      go_wp2
      go_ret
      exact ⟨rfl, p2, cc2⟩
  · have q : (E != 0) = true := by simpa using hE
    have HV : Hid (fdV E l k n = 0) := if_neg hE
    have HE : Hid (fdE E l k n = E) := if_neg hE
    have HK : Hid (fdK E l k n = k) := if_neg hE
    rw [HV.out, HE.out, HK.out]
    clear hE
    go_enter Try.func31, Try.ntmps31
    go_wp2
    go_ret
    exact ⟨rfl, h, Chg.refl _ _⟩

def phE1 (l : List UInt8) : Int := fdE 0 l 0 1
def phK1 (l : List UInt8) : Nat := fdK 0 l 0 1
def phV1 (l : List UInt8) : Nat := fdV 0 l 0 1
def phE2 (l : List UInt8) : Int := fdE (phE1 l) l (phK1 l) 0
def phK2 (l : List UInt8) : Nat := fdK (phE1 l) l (phK1 l) 0
def phN (l : List UInt8) : Nat := fdV (phE1 l) l (phK1 l) 0
def phE3 (l : List UInt8) : Int := fdE (phE2 l) l (phK2 l) 5
def phK3 (l : List UInt8) : Nat := fdK (phE2 l) l (phK2 l) 5
def phQ (l : List UInt8) : Nat := fdV (phE2 l) l (phK2 l) 5
def phKey (l : List UInt8) : Bool := (phV1 l : Int) == 1
/-- does a header begin the bytes? -/
def phOk (l : List UInt8) (W H G : Int) : Bool := phE3 l == 0 && Syn.fitsB (phKey l) (phN l) (phQ l) W H G && Bit.restB (Bit.row l) (phK3 l)
def phRK (l : List UInt8) (W H G : Int) : Bool := phOk l W H G && phKey l
def phRN (l : List UInt8) (W H G : Int) : Int := if phOk l W H G then (phN l : Int) else 0
def phRQ (l : List UInt8) (W H G : Int) : Int := if phOk l W H G then (phQ l : Int) else 0
def phRE (l : List UInt8) (W H G : Int) : Int := if phOk l W H G then 0 else 121
def phRest (l : List UInt8) (W H G : Int) : List UInt8 := if phOk l W H G then l.drop ((phK3 l + 7) / 8) else []
theorem phR_no {l : List UInt8} {W H G : Int} (h : phOk l W H G = false) : phRK l W H G = false ∧ phRN l W H G = 0 ∧ phRQ l W H G = 0 ∧ phRE l W H G = 121 ∧ phRest l W H G = [] := by
  unfold phRK phRN phRQ phRE phRest
  rw [h]; exact ⟨rfl, rfl, rfl, rfl, rfl⟩
theorem phR_yes {l : List UInt8} {W H G : Int} (h : phOk l W H G = true) : phRK l W H G = phKey l ∧ phRN l W H G = phN l ∧ phRQ l W H G = phQ l ∧ phRE l W H G = 0 ∧ phRest l W H G = l.drop ((phK3 l + 7) / 8) := by
  unfold phRK phRN phRQ phRE phRest
  rw [h]; exact ⟨by simp, rfl, rfl, rfl, rfl⟩
/-- a header that is answered, bytes of the call's own, and an error -/
def RetHead (w : World) (K : Bool) (N Q : Int) (m : List UInt8) (E : Int) (e : Ending) (w' : World) : Prop :=
  ∃ A n c, e = .returned (.tuple #[headV K N Q, .slice A n c, .int .i64 E]) ∧ Own8 w' 5 A n c m ∧ (∀ g, blkOf A = some g → w.heap.size ≤ g) ∧ Below w.heap.size w w'
/-- three stores into the answer's block -/
theorem head_set {w V : World} {g : Nat} {a b c : Value} (h : Blk V g 25 #[a, b, c]) (hb : Below w.heap.size w V) (hg : w.heap.size ≤ g) (x y z : Value) :
    Blk (((V.setCell ⟨g, 0, none⟩ x).setCell ⟨g, 1, none⟩ y).setCell ⟨g, 2, none⟩ z) g 25 #[x, y, z] ∧ Below w.heap.size w (((V.setCell ⟨g, 0, none⟩ x).setCell ⟨g, 1, none⟩ y).setCell ⟨g, 2, none⟩ z) :=
  ⟨by simpa using ((h.set_ 0 x).set_ 1 y).set_ 2 z, ((hb.setCell (p := ⟨g, 0, none⟩) hg x).setCell (p := ⟨g, 1, none⟩) hg y).setCell (p := ⟨g, 2, none⟩) hg z⟩
theorem headZero : (Try.prog.info? 25).map (fun i => (i.zero, i.size)) = some (some (.agg #[.bool false, .int .i64 0, .int .i64 0]), 3) := by kernel_rfl
set_option maxRecDepth 100000 in
set_option maxHeartbeats 4000000 in
theorem parseHead_calls (A : Option Addr) (n c : Nat) (l : List UInt8) (W H G : Int) (w : World) (hn : n = l.length) (hm : n ≤ 1000000) {B0 : Nat} (hA : Byt w B0 A l) (hB0 : B0 ≤ w.heap.size) :
    Calls Try.prog 18 #[.slice A n c, seqV W H G] w (RetHead w (phRK l W H G) (phRN l W H G) (phRQ l W H G) (phRest l W H G) (phRE l W H G)) := by
  have hz := (zero_of_info headZero).1
  have HN := hide hn
  clear hn
  have bb0 : Below w.heap.size w ((w.alloc (.cells #[.int .i64 W, .int .i64 H, .int .i64 G] 23)).alloc (.cells #[.bool false, .int .i64 0, .int .i64 0] 25)) := ((Below.refl w.heap.size w).alloc (Nat.le_refl _) _).alloc (by simp) _
  have bS := (Blk.new w 23 #[.int .i64 W, .int .i64 H, .int .i64 G]).alloc (.cells #[.bool false, .int .i64 0, .int .i64 0] 25)
  have bR := Blk.new (w.alloc (.cells #[.int .i64 W, .int .i64 H, .int .i64 G] 23)) 25 #[.bool false, .int .i64 0, .int .i64 0]
  rw [World.size_alloc] at bR
  go_enter Try.func18, Try.ntmps18
  go_wp2_with fail
  generalize (w.alloc (.cells #[.int .i64 W, .int .i64 H, .int .i64 G] 23)).alloc (.cells #[.bool false, .int .i64 0, .int .i64 0] 25) = W0 at *
  refine (open_calls _ _ _ l _ HN.out (by omega) (hA.below (bb0.mono hB0))).mono ?_
  rintro e w1 ⟨rfl, hr1, b1⟩
  obtain ⟨gr, hgr⟩ : ∃ g, g = W0.heap.size + 1 := ⟨_, rfl⟩
  obtain ⟨rr, hrr⟩ : ∃ g, g = W0.heap.size := ⟨_, rfl⟩
  rw [← hgr, ← hrr] at hr1
  rw [← hgr]
  have ggr : w.heap.size ≤ gr := by have := bb0.size; omega
  clear hgr hrr
  have hb2 : Below w1.heap.size w1 ((w1.alloc (.cells #[.pointer (some ⟨gr, 0, none⟩)] 55)).alloc (.cells #[.int .i64 0] 27)) := ((Below.refl _ _).alloc (Nat.le_refl _) _).alloc (by simp) _
  have bP := (Blk.new w1 55 #[.pointer (some ⟨gr, 0, none⟩)]).alloc (.cells #[.int .i64 0] 27)
  have bE := Blk.new (w1.alloc (.cells #[.pointer (some ⟨gr, 0, none⟩)] 55)) 27 #[.int .i64 0]
  rw [World.size_alloc] at bE
  have P2 : PS _ _ _ gr rr l 0 0 := ⟨bE, bP, hr1.below hb2⟩
  have b12 := b1.trans (hb2.mono b1.size)
  have bS2 := bS.below b12 bS.lt
  have bR2 := bR.below b12 bR.lt
  have bb2 := bb0.trans (b12.mono bb0.size)
  have g1 : w.heap.size ≤ w1.heap.size := (bb0.trans (b1.mono bb0.size)).size
  obtain ⟨gp, hgp⟩ : ∃ g, g = w1.heap.size := ⟨_, rfl⟩
  obtain ⟨ge, hge⟩ : ∃ g, g = w1.heap.size + 1 := ⟨_, rfl⟩
  rw [← hge, ← hgp] at P2
  have ge0 : w.heap.size ≤ ge := by omega
  clear bE bP hr1 b12 hb2 bS bR b1 bb0
  go_wp2_with fail
  rw [← hge, ← hgp]
  generalize (w1.alloc (.cells #[.pointer (some ⟨gr, 0, none⟩)] 55)).alloc (.cells #[.int .i64 0] 27) = W2 at *
  clear hgp hge g1
  have HV1 : Hid (phV1 l = fdV 0 l 0 1) := rfl
  have HE1 : Hid (phE1 l = fdE 0 l 0 1) := rfl
  have HK1 : Hid (phK1 l = fdK 0 l 0 1) := rfl
  have HV2 : Hid (phN l = fdV (phE1 l) l (phK1 l) 0) := rfl
  have HE2 : Hid (phE2 l = fdE (phE1 l) l (phK1 l) 0) := rfl
  have HK2 : Hid (phK2 l = fdK (phE1 l) l (phK1 l) 0) := rfl
  have HV3 : Hid (phQ l = fdV (phE2 l) l (phK2 l) 5) := rfl
  have HE3 : Hid (phE3 l = fdE (phE2 l) l (phK2 l) 5) := rfl
  have HK3 : Hid (phK3 l = fdK (phE2 l) l (phK2 l) 5) := rfl
  refine (next2_calls ge gp gr rr l _ 1 _ _ P2 (by omega)).mono ?_
  rintro e W3 ⟨rfl, P3, cc3⟩
  rw [← HE1.out, ← HK1.out] at P3
  rw [← HV1.out]
  have bS3 := cc3.blk bS2 (fun h => by rcases h with h | h; exact bS2.ne_ P2.1 (by decide) h; exact bS2.ne_ P2.2.2.1 (by decide) h)
  have bR3 := cc3.blk bR2 (fun h => by rcases h with h | h; exact bR2.ne_ P2.1 (by decide) h; exact bR2.ne_ P2.2.2.1 (by decide) h)
  have bb3 := bb2.trans (cc3.below (fun i h => by rcases h with h | h <;> omega) bb2.size)
  clear P2 cc3 bS2 bR2 bb2
  go_wp2_with fail
  refine (next2_calls ge gp gr rr l _ 0 _ _ P3 (by omega)).mono ?_
  rintro e W4 ⟨rfl, P4, cc4⟩
  rw [← HE2.out, ← HK2.out] at P4
  rw [← HV2.out]
  have bS4 := cc4.blk bS3 (fun h => by rcases h with h | h; exact bS3.ne_ P3.1 (by decide) h; exact bS3.ne_ P3.2.2.1 (by decide) h)
  have bR4 := cc4.blk bR3 (fun h => by rcases h with h | h; exact bR3.ne_ P3.1 (by decide) h; exact bR3.ne_ P3.2.2.1 (by decide) h)
  have bb4 := bb3.trans (cc4.below (fun i h => by rcases h with h | h <;> omega) bb3.size)
  clear P3 cc4 bS3 bR3 bb3
  go_wp2_with fail
  refine (next2_calls ge gp gr rr l _ 5 _ _ P4 (by omega)).mono ?_
  rintro e W5 ⟨rfl, P5, cc5⟩
  rw [← HE3.out, ← HK3.out] at P5
  rw [← HV3.out]
  have bS5 := cc5.blk bS4 (fun h => by rcases h with h | h; exact bS4.ne_ P4.1 (by decide) h; exact bS4.ne_ P4.2.2.1 (by decide) h)
  have bR5 := cc5.blk bR4 (fun h => by rcases h with h | h; exact bR4.ne_ P4.1 (by decide) h; exact bR4.ne_ P4.2.2.1 (by decide) h)
  have bb5 := bb4.trans (cc5.below (fun i h => by rcases h with h | h <;> omega) bb4.size)
  clear P4 cc5 bS4 bR4 bb4
  have HOK : Hid (phOk l W H G = (phE3 l == 0 && Syn.fitsB (phKey l) (phN l) (phQ l) W H G && Bit.restB (Bit.row l) (phK3 l))) := rfl
  have HKY : Hid (phKey l = ((phV1 l : Int) == 1)) := rfl
  rw [HKY.out] at HOK
  clear HV1 HE1 HK1 HV2 HE2 HK2 HV3 HE3 HK3
  generalize hkb : ((phV1 l : Int) == 1) = kb at *
  generalize hvN : phN l = vN at *
  generalize hvQ : phQ l = vQ at *
  have HvN := hide hvN
  have HvQ := hide hvQ
  clear hvN hvQ
  generalize phE3 l = E3 at *
  generalize hK3 : phK3 l = K3 at *
  have HK3 := hide hK3
  clear hK3
  generalize phV1 l = v1 at *
  have hb6 : Below W5.heap.size W5 (W5.alloc (.cells #[.bool kb, .int .i64 (vN : Int), .int .i64 (vQ : Int)] 25)) := (Below.refl _ _).alloc (Nat.le_refl _) _
  have bN := Blk.new W5 25 #[.bool kb, .int .i64 (vN : Int), .int .i64 (vQ : Int)]
  have P6 := P5.below hb6
  have bS6 := bS5.below hb6 bS5.lt
  have bR6 := bR5.below hb6 bR5.lt
  have ltR := bR5.lt
  have bb6 := bb5.trans (hb6.mono bb5.size)
  have c0 : (W5.alloc (.cells #[.bool kb, .int .i64 (vN : Int), .int .i64 (vQ : Int)] 25)).cell? ⟨ge, 0, none⟩ = some (.int .i64 E3) := P6.1.cell 0
  clear P5 bS5 bR5 bb5 hb6
  by_cases h1 : E3 = 0
  · subst h1
    have HFC := hide (fits_calls kb vN vQ W H G)
    have m0 : (W5.alloc (.cells #[.bool kb, .int .i64 (vN : Int), .int .i64 (vQ : Int)] 25)).cell? ⟨W5.heap.size, 0, none⟩ = some (.bool kb) := bN.cell 0
    have m1 : (W5.alloc (.cells #[.bool kb, .int .i64 (vN : Int), .int .i64 (vQ : Int)] 25)).cell? ⟨W5.heap.size, 1, none⟩ = some (.int .i64 (vN : Int)) := bN.cell 1
    have m2 : (W5.alloc (.cells #[.bool kb, .int .i64 (vN : Int), .int .i64 (vQ : Int)] 25)).cell? ⟨W5.heap.size, 2, none⟩ = some (.int .i64 (vQ : Int)) := bN.cell 2
    have t0 : (W5.alloc (.cells #[.bool kb, .int .i64 (vN : Int), .int .i64 (vQ : Int)] 25)).cell? ⟨w.heap.size, 0, none⟩ = some (.int .i64 W) := bS6.cell 0
    have t1 : (W5.alloc (.cells #[.bool kb, .int .i64 (vN : Int), .int .i64 (vQ : Int)] 25)).cell? ⟨w.heap.size, 1, none⟩ = some (.int .i64 H) := bS6.cell 1
    have t2 : (W5.alloc (.cells #[.bool kb, .int .i64 (vN : Int), .int .i64 (vQ : Int)] 25)).cell? ⟨w.heap.size, 2, none⟩ = some (.int .i64 G) := bS6.cell 2
    go_wp2_with fail
    obtain ⟨gn, hgn⟩ : ∃ g, g = W5.heap.size := ⟨_, rfl⟩
    have HGN : Hid (gn ≠ w.heap.size + 1) := by show gn ≠ _; omega
    rw [← hgn] at bN
    rw [← hgn]
    generalize W5.alloc (.cells #[.bool kb, .int .i64 (vN : Int), .int .i64 (vQ : Int)] 25) = W6 at *
    clear hgn m0 m1 m2 t0 t1 t2 c0
    refine (HFC.out _).mono ?_
    rintro e W8 ⟨rfl, b8⟩
    have P8 := P6.below b8
    have bR8 := bR6.below b8 bR6.lt
    have bN8 := bN.below b8 bN.lt
    have bb8 := bb6.trans (b8.mono bb6.size)
    clear P6 bS6 bR6 bN bb6 b8 HFC
    have p0 : W8.cell? ⟨gp, 0, none⟩ = some (.pointer (some ⟨gr, 0, none⟩)) := P8.2.1.cell 0
    cases hfi : Syn.fitsB kb vN vQ W H G
    · have HF : Hid (phOk l W H G = false) := by show _ = _; rw [HOK.out, hfi]; simp
      clear hfi
      have s0 : (W8).cell? ⟨w.heap.size + 1, 0, none⟩ = some (.bool false) := bR8.cell 0
      have s1 : (W8).cell? ⟨w.heap.size + 1, 1, none⟩ = some (.int .i64 0) := bR8.cell 1
      have s2 : (W8).cell? ⟨w.heap.size + 1, 2, none⟩ = some (.int .i64 0) := bR8.cell 2
      have sf0 := bR8.frozen 0
      have sf1 := bR8.frozen 1
      have sf2 := bR8.frozen 2
      go_wp2
      obtain ⟨bF, bbF⟩ := head_set bR8 bb8 (by omega) (.bool false) (.int .i64 0) (.int .i64 0)
      clear s0 s1 s2 sf0 sf1 sf2
      generalize (((W8).setCell ⟨w.heap.size + 1, 0, none⟩ (.bool false)).setCell ⟨w.heap.size + 1, 1, none⟩ (.int .i64 0)).setCell ⟨w.heap.size + 1, 2, none⟩ (.int .i64 0) = F at *
      have k0 : F.cell? ⟨w.heap.size + 1, 0, none⟩ = some (.bool false) := bF.cell 0
      have k1 : F.cell? ⟨w.heap.size + 1, 1, none⟩ = some (.int .i64 0) := bF.cell 1
      have k2 : F.cell? ⟨w.heap.size + 1, 2, none⟩ = some (.int .i64 0) := bF.cell 2
      refine bodyPost_ret (v := .tuple #[headV false 0 0, .slice none 0 0, .int .i64 121]) (by simp [results, Try.results18, go_sem, k0, k1, k2]) rfl ?_
      obtain ⟨r1, r2, r3, r4, r5⟩ := phR_no HF.out
      rw [r1, r2, r3, r4, r5]
      exact ⟨none, 0, 0, rfl, Own8.nil _ _, by simp [blkOf], bbF⟩
    · rw [hfi] at HOK
      clear hfi
      go_wp2_with fail
      refine (ralign_any gr rr l K3 _ P8.2.2).mono ?_
      rintro e W9 ⟨rfl, hr9, ch9⟩
      obtain ⟨P9, cc9⟩ := P8.read hr9 ch9
      have bR9 := ch9.blk bR8 (bR8.ne_ P8.2.2.1 (by decide))
      have bN9 := ch9.blk bN8 (bN8.ne_ P8.2.2.1 (by decide))
      have bb9 := bb8.trans (ch9.below (fun i h => by have h : i = gr := h; omega) bb8.size)
      clear hr9 ch9 cc9 P8 bR8 bN8 bb8 p0
      cases hrb : Bit.restB (Bit.row l) K3
      · have HF : Hid (phOk l W H G = false) := by show _ = _; rw [HOK.out, hrb]; simp
        rw [show alE false = 11 from rfl]
        clear hrb
        have s0 : (W9).cell? ⟨w.heap.size + 1, 0, none⟩ = some (.bool false) := bR9.cell 0
        have s1 : (W9).cell? ⟨w.heap.size + 1, 1, none⟩ = some (.int .i64 0) := bR9.cell 1
        have s2 : (W9).cell? ⟨w.heap.size + 1, 2, none⟩ = some (.int .i64 0) := bR9.cell 2
        have sf0 := bR9.frozen 0
        have sf1 := bR9.frozen 1
        have sf2 := bR9.frozen 2
        go_wp2
        obtain ⟨bF, bbF⟩ := head_set bR9 bb9 (by omega) (.bool false) (.int .i64 0) (.int .i64 0)
        clear s0 s1 s2 sf0 sf1 sf2
        generalize (((W9).setCell ⟨w.heap.size + 1, 0, none⟩ (.bool false)).setCell ⟨w.heap.size + 1, 1, none⟩ (.int .i64 0)).setCell ⟨w.heap.size + 1, 2, none⟩ (.int .i64 0) = F at *
        have k0 : F.cell? ⟨w.heap.size + 1, 0, none⟩ = some (.bool false) := bF.cell 0
        have k1 : F.cell? ⟨w.heap.size + 1, 1, none⟩ = some (.int .i64 0) := bF.cell 1
        have k2 : F.cell? ⟨w.heap.size + 1, 2, none⟩ = some (.int .i64 0) := bF.cell 2
        refine bodyPost_ret (v := .tuple #[headV false 0 0, .slice none 0 0, .int .i64 121]) (by simp [results, Try.results18, go_sem, k0, k1, k2]) rfl ?_
        obtain ⟨r1, r2, r3, r4, r5⟩ := phR_no HF.out
        rw [r1, r2, r3, r4, r5]
        exact ⟨none, 0, 0, rfl, Own8.nil _ _, by simp [blkOf], bbF⟩
      · rw [show alE true = 0 from rfl]
        have HF : Hid (phOk l W H G = true) := by show _ = _; rw [HOK.out, hrb]; simp
        rw [hrb] at P9
        clear hrb
        go_wp2
        have P9d := P9.below (Below.refl _ _).drew
        have bR9d := bR9.drew
        have bN9d := bN9.drew
        have bb9d := bb9.drew
        have HGP := hide (P9.2.1.ne_ bR9 (by decide))
        have HRC := hide (rest_calls gr rr l (alK true K3))
        have HKL : Hid (l.drop ((alK true K3 + 7) / 8) = l.drop ((K3 + 7) / 8)) := by rw [show (alK true K3 + 7) / 8 = (K3 + 7) / 8 from by show (8 * ((K3 + 7) / 8) + 7) / 8 = _; omega]; exact rfl
        go_region_held3 (fun w' => w'.cell? ⟨gp, 0, none⟩ = some (.pointer (some ⟨gr, 0, none⟩)) ∧ w'.cell? ⟨gn, 0, none⟩ = some (.bool kb) ∧ w'.cell? ⟨gn, 1, none⟩ = some (.int .i64 (vN : Int)) ∧ w'.cell? ⟨gn, 2, none⟩ = some (.int .i64 (vQ : Int)))
          (first | exact ⟨P9d.2.1.cell 0, bN9d.cell 0, bN9d.cell 1, bN9d.cell 2⟩ | exact ⟨P10.2.1.cell 0, bN10.cell 0, bN10.cell 1, bN10.cell 2⟩ | exact ⟨PF.cell 0, NF.cell 0, NF.cell 1, NF.cell 2⟩)
          (first
            | (go_at_call 32; refine (HRC.out _ P9d.2.2).mono ?_; rintro e t10 ⟨A10, n10, c10, rfl, o10, gg10, b10⟩; have P10 := P9d.below b10; have bN10 := bN9d.below b10 bN9d.lt; have bR10 := bR9d.below b10 bR9d.lt; have bb10 := bb9d.trans (b10.mono bb9d.size); have s0 : t10.cell? ⟨w.heap.size + 1, 0, none⟩ = some (.bool false) := bR10.cell 0; have s1 : t10.cell? ⟨w.heap.size + 1, 1, none⟩ = some (.int .i64 0) := bR10.cell 1; have s2 : t10.cell? ⟨w.heap.size + 1, 2, none⟩ = some (.int .i64 0) := bR10.cell 2; have sf0 := bR10.frozen 0; have sf1 := bR10.frozen 1; have sf2 := bR10.frozen 2; have PF := ((P10.2.1.far (p := ⟨w.heap.size + 1, 0, none⟩) HGP.out (.bool kb)).far (p := ⟨w.heap.size + 1, 1, none⟩) HGP.out (.int .i64 (vN : Int))).far (p := ⟨w.heap.size + 1, 2, none⟩) HGP.out (.int .i64 (vQ : Int)); have NF := ((bN10.far (p := ⟨w.heap.size + 1, 0, none⟩) HGN.out (.bool kb)).far (p := ⟨w.heap.size + 1, 1, none⟩) HGN.out (.int .i64 (vN : Int))).far (p := ⟨w.heap.size + 1, 2, none⟩) HGN.out (.int .i64 (vQ : Int))))
        all_goals
          obtain ⟨bF, bbF⟩ := head_set bR10 bb10 (by omega) (.bool kb) (.int .i64 (vN : Int)) (.int .i64 (vQ : Int))
          have chF : Chg (fun k => k = w.heap.size + 1) t10 (((t10.setCell ⟨w.heap.size + 1, 0, none⟩ (.bool kb)).setCell ⟨w.heap.size + 1, 1, none⟩ (.int .i64 (vN : Int))).setCell ⟨w.heap.size + 1, 2, none⟩ (.int .i64 (vQ : Int))) := (((Chg.refl (fun k => k = w.heap.size + 1) t10).setCell (p := ⟨w.heap.size + 1, 0, none⟩) (.inl rfl) _).setCell (p := ⟨w.heap.size + 1, 1, none⟩) (.inl rfl) _).setCell (p := ⟨w.heap.size + 1, 2, none⟩) (.inl rfl) _
          have oF := chF.own o10 (fun q hq h => by have := gg10 q hq; have := bR9d.lt; subst h; omega)
          clear s0 s1 s2 sf0 sf1 sf2 PF NF chF o10 bR10 bN10 P10
          generalize ((t10.setCell ⟨w.heap.size + 1, 0, none⟩ (.bool kb)).setCell ⟨w.heap.size + 1, 1, none⟩ (.int .i64 (vN : Int))).setCell ⟨w.heap.size + 1, 2, none⟩ (.int .i64 (vQ : Int)) = F at *
          have k0 : F.cell? ⟨w.heap.size + 1, 0, none⟩ = some (.bool kb) := bF.cell 0
          have k1 : F.cell? ⟨w.heap.size + 1, 1, none⟩ = some (.int .i64 (vN : Int)) := bF.cell 1
          have k2 : F.cell? ⟨w.heap.size + 1, 2, none⟩ = some (.int .i64 (vQ : Int)) := bF.cell 2
          go_wp2
          refine bodyPost_ret (v := .tuple #[headV kb vN vQ, .slice A10 n10 c10, .int .i64 0]) (by simp [results, Try.results18, go_sem, k0, k1, k2]) rfl ?_
          obtain ⟨r1, r2, r3, r4, r5⟩ := phR_yes HF.out
          rw [HKL.out] at oF
          rw [r1, r2, r3, r4, r5, HvN.out, HvQ.out, HK3.out, HKY.out]
          exact ⟨A10, n10, c10, rfl, oF, fun q hq => by have := gg10 q hq; have := bb9d.size; omega, bbF⟩
  · clear ltR
    have q1 : (E3 != 0) = true := by simpa using h1
    have HF : Hid (phOk l W H G = false) := by
      have e : (E3 == 0) = false := by simpa using h1
      show _ = _
      rw [HOK.out, e]; simp
    have s0 : (W5.alloc (.cells #[.bool kb, .int .i64 (vN : Int), .int .i64 (vQ : Int)] 25)).cell? ⟨w.heap.size + 1, 0, none⟩ = some (.bool false) := bR6.cell 0
    have s1 : (W5.alloc (.cells #[.bool kb, .int .i64 (vN : Int), .int .i64 (vQ : Int)] 25)).cell? ⟨w.heap.size + 1, 1, none⟩ = some (.int .i64 0) := bR6.cell 1
    have s2 : (W5.alloc (.cells #[.bool kb, .int .i64 (vN : Int), .int .i64 (vQ : Int)] 25)).cell? ⟨w.heap.size + 1, 2, none⟩ = some (.int .i64 0) := bR6.cell 2
    have sf0 := bR6.frozen 0
    have sf1 := bR6.frozen 1
    have sf2 := bR6.frozen 2
    go_wp2
    obtain ⟨bF, bbF⟩ := head_set bR6 bb6 (by omega) (.bool false) (.int .i64 0) (.int .i64 0)
    clear s0 s1 s2 sf0 sf1 sf2
    generalize (((W5.alloc (.cells #[.bool kb, .int .i64 (vN : Int), .int .i64 (vQ : Int)] 25)).setCell ⟨w.heap.size + 1, 0, none⟩ (.bool false)).setCell ⟨w.heap.size + 1, 1, none⟩ (.int .i64 0)).setCell ⟨w.heap.size + 1, 2, none⟩ (.int .i64 0) = F at *
    have k0 : F.cell? ⟨w.heap.size + 1, 0, none⟩ = some (.bool false) := bF.cell 0
    have k1 : F.cell? ⟨w.heap.size + 1, 1, none⟩ = some (.int .i64 0) := bF.cell 1
    have k2 : F.cell? ⟨w.heap.size + 1, 2, none⟩ = some (.int .i64 0) := bF.cell 2
    refine bodyPost_ret (v := .tuple #[headV false 0 0, .slice none 0 0, .int .i64 121]) (by simp [results, Try.results18, go_sem, k0, k1, k2]) rfl ?_
    obtain ⟨r1, r2, r3, r4, r5⟩ := phR_no HF.out
    rw [r1, r2, r3, r4, r5]
    exact ⟨none, 0, 0, rfl, Own8.nil _ _, by simp [blkOf], bbF⟩
end Go.Proofs.Ytapfapggepagmaa
