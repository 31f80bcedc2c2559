/- The document's sequence of bytes, by its contract: it answers as the program does. Conditions: at most 300 bytes. -/
import Derived.Test.YtakglalebjkpeaaHSyn
import Derived.Test.YtakglalebjkpeaaHLib
namespace Go.Proofs.Ytakglalebjkpeaa.C12
open Go.RowKit Kin

def rsK2 (l : List UInt8) : Nat := psK1 l + Gol.gK (bitsOf l (psK1 l))
def rsK3 (l : List UInt8) : Nat := rsK2 l + Gol.gK (bitsOf l (rsK2 l))
def rsA (l : List UInt8) : Nat := Gol.gV (bitsOf l (psK1 l))
def rsB (l : List UInt8) : Nat := Gol.gV (bitsOf l (rsK2 l))
def rsG (l : List UInt8) : Nat := Gol.gV (bitsOf l (rsK3 l))
def rsE1 (l : List UInt8) : Int := Gol.gE (bitsOf l (psK1 l))
def rsE2 (l : List UInt8) : Int := Gol.gE (bitsOf l (rsK2 l))
def rsE3 (l : List UInt8) : Int := Gol.gE (bitsOf l (rsK3 l))
theorem rs_yes {l : List UInt8} (h : psOk l = true) : rsE1 l = 0 ∧ rsE2 l = 0 ∧ rsE3 l = 0 ∧ rsA l ≤ 999 ∧ rsB l ≤ 999 ∧ rsG l ≤ 999 ∧ 16 * ((rsA l : Int) + 1) = 16 * psW l ∧ 16 * ((rsB l : Int) + 1) = 16 * psH l ∧ (rsG l : Int) + 1 = psG l := by
  have hri := (ps_spec h).1
  unfold psOk at h
  simp only [Bool.and_eq_true, beq_iff_eq, decide_eq_true_eq] at h
  obtain ⟨⟨⟨⟨e4, _⟩, _⟩, _⟩, _⟩ := h
  obtain ⟨e3, g3⟩ := stE_zero e4
  obtain ⟨e2, g2⟩ := stE_zero e3
  obtain ⟨e1, g1⟩ := stE_zero e2
  have k2 : psK2 l = rsK2 l := by unfold psK2 rsK2; rw [stK, if_pos e1]
  have k3 : psK3 l = rsK3 l := by unfold psK3 rsK3; rw [stK, if_pos e2, k2]
  have vW : psW l = (rsA l : Int) + 1 := by unfold psW rsA; rw [stV, if_pos e1]
  have vH : psH l = (rsB l : Int) + 1 := by unfold psH rsB; rw [stV, if_pos e2, k2]
  have vG : psG l = (rsG l : Int) + 1 := by unfold psG rsG; rw [stV, if_pos e3, k3]
  rw [k2] at g2
  rw [k3] at g3
  obtain ⟨⟨_, _, w3⟩, ⟨_, _, h3⟩, _, g4⟩ := Syn.right_of hri
  rw [vW] at w3
  rw [vH] at h3
  rw [vG] at g4
  exact ⟨g1, g2, g3, by omega, by omega, by omega, by rw [vW], by rw [vH], by rw [vG]⟩
theorem rs_no {l : List UInt8} {W H G : Int} (h : psOk l = false) (hr : Syn.rightB W H G = true) : ¬ Syn.seqL W H G = l := by
  intro e
  have := (ps_of hr).1
  rw [e, h] at this
  cases this
theorem tl_inj {t k : ByteArray} (e : t.toList = k.toList) : t = k := by
  rw [Lib.toList_data, Lib.toList_data] at e
  exact ByteArray.ext (Array.toList_inj.1 e)
theorem tl_ne {t k : ByteArray} (h : ¬ t = k) : (t.toList == k.toList) = false := by
  rw [beq_eq_false_iff_ne]
  exact fun e => h (tl_inj e)
theorem seq_cells' {w : World} {g : Nat} {t : TypeId} {x y z : Value} (h : Blk w g t #[x, y, z]) : w.cell? ⟨g, 0, none⟩ = some x ∧ w.cell? ⟨g, 1, none⟩ = some y ∧ w.cell? ⟨g, 2, none⟩ = some z := ⟨h.cell 0, h.cell 1, h.cell 2⟩
theorem gV64 (l : List UInt8) (k : Nat) : Gol.gV (bitsOf l k) ≤ 4294967295 := by
  have := gV_le (bitsOf l k)
  omega

set_option maxRecDepth 100000 in
set_option maxHeartbeats 4000000 in
theorem refparseSeq_calls (A : Option Addr) (n c : Nat) (l : List UInt8) (w : World) (hn : n = l.length) (hm : n ≤ 300) (hA : Byt w w.heap.size A l) :
    Calls Try.prog 42 #[.slice A n c] w (RetSeq w (psRW l) (psRH l) (psRG l) (psRE l)) := by
  have HN := hide hn
  have hl300 : l.length ≤ 300 := by rw [← hn]; exact hm
  clear hn
  have b0 : Below w.heap.size w (w.alloc (.cells #[.int .i64 0, .int .i64 0, .int .i64 0] 23)) := (Below.refl _ _).alloc (Nat.le_refl _) _
  have bk := Blk.new w 23 #[.int .i64 0, .int .i64 0, .int .i64 0]
  go_enter Try.func42, Try.ntmps42
  go_wp2_with fail
  generalize w.alloc (.cells #[.int .i64 0, .int .i64 0, .int .i64 0] 23) = W0 at *
  refine (refopen_calls A n c l _ HN.out hm (hA.below b0)).mono ?_
  rintro e w1 ⟨g, R, rfl, r1, gg, gR, b1⟩
  have bk1 := bk.below b1 bk.lt
  have bel1 := b0.trans (b1.mono b0.size)
  have hgl : w.heap.size < g := Nat.lt_of_lt_of_le bk.lt gg
  have HF : Hid (∀ {w' w'' : World}, Chg (One g) w' w'' → Below w.heap.size w w' → Blk w' w.heap.size 23 #[.int .i64 0, .int .i64 0, .int .i64 0] → Below w.heap.size w w'' ∧ Blk w'' w.heap.size 23 #[.int .i64 0, .int .i64 0, .int .i64 0]) := fun ch bb kk =>
    ⟨bb.trans (ch.below (fun k h => by have h : k = g := h; omega) bb.size), ch.blk kk (fun h => by have h : w.heap.size = g := h; omega)⟩
  clear b0 bk b1 gg gR
  go_wp2_with fail
  refine (refget_any g R l 0 16 _ r1).mono ?_
  rintro e w2 ⟨rfl, r2, ch2⟩
  obtain ⟨bel2, bk2⟩ := HF.out ch2 bel1 bk1
  have e1 : getK (8 * l.length) 0 16 = psK1 l := rfl
  rw [e1] at r2
  clear r1 ch2 bel1 bk1
  go_wp2_with fail
  refine (refgget_any g R l (psK1 l) _ r2 (by omega)).mono ?_
  rintro e w3 ⟨rfl, r3, ch3⟩
  obtain ⟨bel3, bk3⟩ := HF.out ch3 bel2 bk2
  have e2 : psK1 l + Gol.gK (bitsOf l (psK1 l)) = rsK2 l := rfl
  rw [e2] at r3
  clear r2 ch3 bel2 bk2
  go_wp2_with fail
  refine (refgget_any g R l (rsK2 l) _ r3 (by omega)).mono ?_
  rintro e w4 ⟨rfl, r4, ch4⟩
  obtain ⟨bel4, bk4⟩ := HF.out ch4 bel3 bk3
  have e3 : rsK2 l + Gol.gK (bitsOf l (rsK2 l)) = rsK3 l := rfl
  rw [e3] at r4
  clear r3 ch4 bel3 bk3
  go_wp2_with fail
  refine (refgget_any g R l (rsK3 l) _ r4 (by omega)).mono ?_
  rintro e w5 ⟨rfl, r5, ch5⟩
  obtain ⟨bel5, bk5⟩ := HF.out ch5 bel4 bk4
  clear r4 r5 ch5 bel4 bk4 e1 e2 e3
  have HY := hide (fun h => rs_yes (l := l) h)
  have HNo := hide (fun W H G h (hr : Syn.rightB W H G = true) => rs_no (l := l) h hr)
  have gA := gV64 l (psK1 l)
  have gB := gV64 l (rsK2 l)
  have gG := gV64 l (rsK3 l)
  unfold rsE1 rsE2 rsE3 rsA rsB rsG at HY
  generalize Gol.gV (bitsOf l (psK1 l)) = a at *
  generalize Gol.gV (bitsOf l (rsK2 l)) = b at *
  generalize Gol.gV (bitsOf l (rsK3 l)) = d at *
  generalize Gol.gE (bitsOf l (psK1 l)) = E1 at *
  generalize Gol.gE (bitsOf l (rsK2 l)) = E2 at *
  generalize Gol.gE (bitsOf l (rsK3 l)) = E3 at *
  have k0 : w5.cell? ⟨w.heap.size, 0, none⟩ = some (.int .i64 0) := bk5.cell 0
  have k1 : w5.cell? ⟨w.heap.size, 1, none⟩ = some (.int .i64 0) := bk5.cell 1
  have k2 : w5.cell? ⟨w.heap.size, 2, none⟩ = some (.int .i64 0) := bk5.cell 2
  have f0 := bk5.frozen 0
  have f1 := bk5.frozen 1
  have f2 := bk5.frozen 2
  obtain ⟨zk, zb⟩ := three_set bk5 bel5 (Nat.le_refl _) (.int .i64 0) (.int .i64 0) (.int .i64 0)
  have z0 : (((w5.setCell ⟨w.heap.size, 0, none⟩ (.int .i64 0)).setCell ⟨w.heap.size, 1, none⟩ (.int .i64 0)).setCell ⟨w.heap.size, 2, none⟩ (.int .i64 0)).cell? ⟨w.heap.size, 0, none⟩ = some (.int .i64 0) := zk.cell 0
  have z1 : (((w5.setCell ⟨w.heap.size, 0, none⟩ (.int .i64 0)).setCell ⟨w.heap.size, 1, none⟩ (.int .i64 0)).setCell ⟨w.heap.size, 2, none⟩ (.int .i64 0)).cell? ⟨w.heap.size, 1, none⟩ = some (.int .i64 0) := zk.cell 1
  have z2 : (((w5.setCell ⟨w.heap.size, 0, none⟩ (.int .i64 0)).setCell ⟨w.heap.size, 1, none⟩ (.int .i64 0)).setCell ⟨w.heap.size, 2, none⟩ (.int .i64 0)).cell? ⟨w.heap.size, 2, none⟩ = some (.int .i64 0) := zk.cell 2
  by_cases hp : E1 = 0 ∧ E2 = 0 ∧ E3 = 0 ∧ a ≤ 999 ∧ b ≤ 999 ∧ d ≤ 999
  · obtain ⟨rfl, rfl, rfl, ha, hb, hd⟩ := hp
    have da : decide ((999 : Int) < (a : Int)) = false := by simp; omega
    have db : decide ((999 : Int) < (b : Int)) = false := by simp; omega
    have dd : decide ((999 : Int) < (d : Int)) = false := by simp; omega
    have bw : Below w5.heap.size w5 (w5.alloc (.cells #[.int .i64 (16 * ((a : Int) + 1)), .int .i64 (16 * ((b : Int) + 1)), .int .i64 ((d : Int) + 1)] 23)) := (Below.refl _ _).alloc (Nat.le_refl _) _
    have bs := Blk.new w5 23 #[.int .i64 (16 * ((a : Int) + 1)), .int .i64 (16 * ((b : Int) + 1)), .int .i64 ((d : Int) + 1)]
    clear z0 z1 z2 zk zb k0 k1 k2 f0 f1 f2
    have HSQ := hide (refseq_calls (16 * ((a : Int) + 1)) (16 * ((b : Int) + 1)) ((d : Int) + 1))
    go_wp2_with fail
    generalize w5.alloc (.cells #[.int .i64 (16 * ((a : Int) + 1)), .int .i64 (16 * ((b : Int) + 1)), .int .i64 ((d : Int) + 1)] 23) = W5 at *
    refine (HSQ.out _).mono ?_
    rintro e w6 ⟨A6, n6, c6, rfl, o6, g6, b6⟩
    have bw6 := bnext bw b6
    have bel6 := bel5.trans (bw6.mono bel5.size)
    have bk6 := bk5.below bw6 bk5.lt
    have bs6 := bs.below b6 bs.lt
    have k0 : w6.cell? ⟨w.heap.size, 0, none⟩ = some (.int .i64 0) := bk6.cell 0
    have k1 : w6.cell? ⟨w.heap.size, 1, none⟩ = some (.int .i64 0) := bk6.cell 1
    have k2 : w6.cell? ⟨w.heap.size, 2, none⟩ = some (.int .i64 0) := bk6.cell 2
    have f0 := bk6.frozen 0
    have f1 := bk6.frozen 1
    have f2 := bk6.frozen 2
    have s0 : w6.cell? ⟨w5.heap.size, 0, none⟩ = some (.int .i64 (16 * ((a : Int) + 1))) := bs6.cell 0
    have s1 : w6.cell? ⟨w5.heap.size, 1, none⟩ = some (.int .i64 (16 * ((b : Int) + 1))) := bs6.cell 1
    have s2 : w6.cell? ⟨w5.heap.size, 2, none⟩ = some (.int .i64 ((d : Int) + 1)) := bs6.cell 2
    have cv1 : Sem.run Try.prog (convert 31 9 (.slice A6 n6 c6)) w6 = .ok (.string (str (Syn.seqL (16 * ((a : Int) + 1)) (16 * ((b : Int) + 1)) ((d : Int) + 1)))) w6 := run_conv8 bytesT Try.underlying9 A6 n6 c6 _ o6.byt o6.1
    have cv2 : Sem.run Try.prog (convert 31 9 (.slice A n c)) w6 = .ok (.string (str l)) w6 := run_conv8 bytesT Try.underlying9 A n c _ (hA.below bel6) HN.out
    obtain ⟨zk, zb⟩ := three_set bk6 bel6 (Nat.le_refl _) (.int .i64 0) (.int .i64 0) (.int .i64 0)
    have z0 : (((w6.setCell ⟨w.heap.size, 0, none⟩ (.int .i64 0)).setCell ⟨w.heap.size, 1, none⟩ (.int .i64 0)).setCell ⟨w.heap.size, 2, none⟩ (.int .i64 0)).cell? ⟨w.heap.size, 0, none⟩ = some (.int .i64 0) := zk.cell 0
    have z1 : (((w6.setCell ⟨w.heap.size, 0, none⟩ (.int .i64 0)).setCell ⟨w.heap.size, 1, none⟩ (.int .i64 0)).setCell ⟨w.heap.size, 2, none⟩ (.int .i64 0)).cell? ⟨w.heap.size, 1, none⟩ = some (.int .i64 0) := zk.cell 1
    have z2 : (((w6.setCell ⟨w.heap.size, 0, none⟩ (.int .i64 0)).setCell ⟨w.heap.size, 1, none⟩ (.int .i64 0)).setCell ⟨w.heap.size, 2, none⟩ (.int .i64 0)).cell? ⟨w.heap.size, 2, none⟩ = some (.int .i64 0) := zk.cell 2
    obtain ⟨vk, vb⟩ := three_set bk6 bel6 (Nat.le_refl _) (.int .i64 (16 * ((a : Int) + 1))) (.int .i64 (16 * ((b : Int) + 1))) (.int .i64 ((d : Int) + 1))
    clear bs bs6 bk6 bw bw6 b6 g6 o6 hA
    cases hok : psOk l
    · obtain ⟨r1, r2, r3, r4⟩ := psR_no hok
      have HRR := hide (And.intro r1 (And.intro r2 (And.intro r3 r4)))
      have HNN := hide (fun hr => HNo.out (16 * ((a : Int) + 1)) (16 * ((b : Int) + 1)) ((d : Int) + 1) hok hr)
      clear r1 r2 r3 r4 hok
      cases hr : Syn.rightB (16 * ((a : Int) + 1)) (16 * ((b : Int) + 1)) ((d : Int) + 1)
      case' false =>
        rw [Syn.seqE_no hr]
      case' true =>
        have hne := HNN.out hr
        rw [Syn.seqE_yes hr]
        have hne2 : ¬ str (Syn.seqL (16 * ((a : Int) + 1)) (16 * ((b : Int) + 1)) ((d : Int) + 1)) = str l := fun e => hne (str_inj e)
        have hdf := tl_ne hne2
        have hde : ((str (Syn.seqL (16 * ((a : Int) + 1)) (16 * ((b : Int) + 1)) ((d : Int) + 1))).toList != (str l).toList) = true := by rw [bne, hdf]; rfl
        clear hne hne2
      all_goals
        generalize str (Syn.seqL (16 * ((a : Int) + 1)) (16 * ((b : Int) + 1)) ((d : Int) + 1)) = S1 at *
        generalize str l = S2 at *
        clear hr
        go_wp2
        refine bodyPost_ret (v := .tuple #[seqV 0 0 0, .int .i64 121]) (by simp [results, Try.results42, go_sem, z0, z1, z2]) rfl ?_
        exact ⟨by rw [HRR.out.1, HRR.out.2.1, HRR.out.2.2.1, HRR.out.2.2.2], zb⟩
    · obtain ⟨r1, r2, r3, r4⟩ := psR_yes hok
      obtain ⟨_, _, _, _, _, _, y1, y2, y3⟩ := HY.out hok
      obtain ⟨hri, hls⟩ := ps_spec hok
      rw [← y1] at r1
      rw [← y2] at r2
      rw [← y3] at r3
      have HRR := hide (And.intro r1 (And.intro r2 (And.intro r3 r4)))
      rw [← y1, ← y2, ← y3] at hri hls
      rw [Syn.seqE_yes hri]
      rw [← hls] at cv1
      have hse : ((str l).toList != (str l).toList) = false := by simp
      generalize str l = S2 at *
      clear r1 r2 r3 r4 y1 y2 y3 hri hls hok z0 z1 z2 zk zb HY HNo
      have v0 := (seq_cells' vk).1
      have v1 := (seq_cells' vk).2.1
      have v2 := (seq_cells' vk).2.2
      go_wp2
      refine bodyPost_ret (v := .tuple #[seqV (16 * ((a : Int) + 1)) (16 * ((b : Int) + 1)) ((d : Int) + 1), .int .i64 0]) (by simp [results, Try.results42, go_sem, v0, v1, v2]) rfl ?_
      exact ⟨by rw [HRR.out.1, HRR.out.2.1, HRR.out.2.2.1, HRR.out.2.2.2], vb⟩
  · have hok : psOk l = false := by
      cases h : psOk l
      · rfl
      · obtain ⟨y1, y2, y3, y4, y5, y6, _⟩ := HY.out h
        exact absurd ⟨y1, y2, y3, y4, y5, y6⟩ hp
    obtain ⟨r1, r2, r3, r4⟩ := psR_no hok
    have HRR := hide (And.intro r1 (And.intro r2 (And.intro r3 r4)))
    clear r1 r2 r3 r4 hok HY HNo
    have hp' : ¬ E1 = 0 ∨ ¬ E2 = 0 ∨ ¬ E3 = 0 ∨ 999 < a ∨ 999 < b ∨ 999 < d := by omega
    clear hp
    by_cases c1 : E1 = 0
    case' neg => have q1 : (E1 != 0) = true := by simpa using c1
    case' pos =>
      subst c1
      by_cases c2 : E2 = 0
      case' neg => have q1 : (E2 != 0) = true := by simpa using c2
      case' pos =>
        subst c2
        by_cases c3 : E3 = 0
        case' neg => have q1 : (E3 != 0) = true := by simpa using c3
        case' pos =>
          subst c3
          by_cases c4 : 999 < a
          case' pos => have q1 : (999 : Int) < (a : Int) := by omega
          case' neg =>
            have q4 : decide ((999 : Int) < (a : Int)) = false := by simp; omega
            by_cases c5 : 999 < b
            case' pos => have q1 : (999 : Int) < (b : Int) := by omega
            case' neg =>
              have q5 : decide ((999 : Int) < (b : Int)) = false := by simp; omega
              have q1 : (999 : Int) < (d : Int) := by omega
    all_goals
      clear hp'
      go_wp2
      refine bodyPost_ret (v := .tuple #[seqV 0 0 0, .int .i64 121]) (by simp [results, Try.results42, go_sem, z0, z1, z2]) rfl ?_
      exact ⟨by rw [HRR.out.1, HRR.out.2.1, HRR.out.2.2.1, HRR.out.2.2.2], zb⟩
end Go.Proofs.Ytakglalebjkpeaa.C12
