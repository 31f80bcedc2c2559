/- A media's file, by the contract of the program's function. Conditions: all lengths together are at most 2^40. -/
import Derived.Test.YtakglalebjkpeaaHSegWriteI
import Derived.Test.YtakglalebjkpeaaHBox
import Derived.Test.YtakglalebjkpeaaHLib2
namespace Kin
open Go Go.RowKit
theorem OwnR.vals {w : World} {e : TypeId} {A : Option Addr} {n c : Nat} {xs : List Value} (h : OwnR w e 1 A n c (xs.map fun v => [v])) : Vals w w.heap.size A xs := fun hl => by
  obtain ⟨b, off, e1, hb, hc⟩ := h.recs (by simpa using hl)
  refine ⟨b, off, e1, hb, fun j v hj => ?_⟩
  have := (hc j [v] (by simp [hj])).2 0 v rfl
  simpa using this
end Kin
namespace Go.Proofs.Ytakglalebjkpeaa.C17
open Go.RowKit Kin Go.Proofs.Ytakglalebjkpeaa Go.Proofs.Ytakglalebjkpeaa.C16

theorem intsT : IsRows Try.prog 57 3 1 8 := isRows_of (z := .int .i64 0) Try.underlying57 (by decide) (by kernel_rfl) rfl
def lens (xs : List Sg.Smp) : List Nat := xs.map (·.n)
def lenRows (xs : List Sg.Smp) : List (List Value) := (ints (lens xs)).map fun v => [v]
theorem lenRows_snoc {xs : List Sg.Smp} {k : Nat} (h : k < xs.length) : lenRows (xs.take (k + 1)) = lenRows (xs.take k) ++ [[.int .i64 ((xs[k].n : Nat) : Int)]] := by
  unfold lenRows lens ints
  rw [List.take_add_one, List.getElem?_eq_getElem h, List.map_append, List.map_append, List.map_append]
  rfl
theorem fours_lens {w : World} {B : Nat} {A : Option Addr} {xs : List Sg.Smp} (h : Sg.Samps w B A xs) : fours (lens xs) = Sg.table (Sg.dats xs) := by
  unfold fours lens Sg.table Sg.dats
  rw [List.map_map, List.map_map]
  congr 1
  apply List.map_congr_left
  intro x hx
  show Bx.four x.n = Bx.four x.d.length
  rw [(h.2 x hx).1]
theorem three_boxes (k1 k2 k3 : ByteArray) (A1 A2 A3 : Option Addr) (n1 n2 n3 c1 c2 c3 : Nat) (d1 d2 d3 : List UInt8) (w : World) (h1 : n1 = d1.length) (h2 : n2 = d2.length) (h3 : n3 = d3.length) (m1 : n1 ≤ maxLen) (m2 : n2 ≤ maxLen) (m3 : n3 ≤ maxLen) (b1 : Byt w w.heap.size A1 d1) (b2 : Byt w w.heap.size A2 d2) (b3 : Byt w w.heap.size A3 d3) :
    Bx.Boxes (w.alloc (.cells #[.string k1, .slice A1 n1 c1, .string k2, .slice A2 n2 c2, .string k3, .slice A3 n3 c3] 53)) (w.alloc (.cells #[.string k1, .slice A1 n1 c1, .string k2, .slice A2 n2 c2, .string k3, .slice A3 n3 c3] 53)).heap.size (some ⟨w.heap.size, 0, none⟩) [⟨k1, A1, n1, c1, d1⟩, ⟨k2, A2, n2, c2, d2⟩, ⟨k3, A3, n3, c3, d3⟩] := by
  refine Bx.Boxes.newN w _ _ _ (fun x hx => ?_) rfl
  rcases List.mem_cons.1 hx with rfl | hx
  · exact ⟨h1, m1, b1⟩
  · rcases List.mem_cons.1 hx with rfl | hx
    · exact ⟨h2, m2, b2⟩
    · rw [List.mem_singleton.1 hx]; exact ⟨h3, m3, b3⟩
/-- what is right of a media, for its walk -/
theorem med_facts {N F : Int} {xs : List Sg.Smp} (hr : Sg.rightM ⟨N, F, Sg.dats xs⟩ = true) :
    (∃ a : Nat, N = (a : Int) ∧ a < 1024) ∧ (∃ b : Nat, F = (b : Int) ∧ b < 1024) ∧ 1 ≤ xs.length ∧ xs.length ≤ 64 ∧ 0 < (Sg.dats xs).flatten.length ∧ (Sg.dats xs).flatten.length ≤ 524288 ∧ Bx.sizes (Sg.boxM ⟨N, F, Sg.dats xs⟩) ≤ 900000000 := by
  obtain ⟨h1, h2, h3, h4⟩ := Sg.rightM_of hr
  dsimp only at h1 h2 h3 h4
  rw [Sg.length_dats] at h2
  refine ⟨⟨N.toNat, by omega, by omega⟩, ⟨F.toNat, by omega, by omega⟩, h2.1, h2.2, ?_, h4, ?_⟩
  · cases hd : Sg.dats xs with
    | nil => have := Sg.length_dats xs; rw [hd] at this; simp at this; omega
    | cons y L =>
      have := h3 y (by rw [hd]; simp)
      rw [List.flatten_cons, List.length_append]; omega
  · rw [Sg.sizes_boxM]; dsimp only; rw [Sg.length_dats]; omega
theorem lens_le {w : World} {B : Nat} {A : Option Addr} {xs : List Sg.Smp} (h : Sg.Samps w B A xs) (hT : (Sg.dats xs).flatten.length ≤ 524288) : ∀ k ∈ lens xs, k ≤ 4294967295 := by
  intro k hk
  obtain ⟨x, hx, rfl⟩ := List.mem_map.1 hk
  have h1 := (h.2 x hx).1
  have h2 := Sg.mem_flatten_le (L := Sg.dats xs) (s := x.d) (List.mem_map.2 ⟨x, hx, rfl⟩)
  show x.n ≤ _
  omega

set_option maxRecDepth 100000 in
set_option maxHeartbeats 8000000 in
theorem writeM_calls (N F : Int) (A : Option Addr) (n c : Nat) (xs : List Sg.Smp) (w : World) (hn : n = xs.length) (hm : n ≤ 9223372036854775807) (hA : Sg.Samps w w.heap.size A xs) (hT : (Sg.dats xs).flatten.length ≤ 1099511627776) :
    Calls Try.prog 12 #[medV N F A n c] w (C16.RetBE w (Sg.wmL ⟨N, F, Sg.dats xs⟩) (Sg.wmE ⟨N, F, Sg.dats xs⟩)) := by
  have b0 : Below w.heap.size w (w.alloc (.cells #[.int .i64 N, .int .i64 F, .slice A n c] 28)) := (Below.refl _ _).alloc (Nat.le_refl _) _
  have bk := Blk.new w 28 #[.int .i64 N, .int .i64 F, .slice A n c]
  obtain ⟨c0, c1, c2⟩ := med_cells bk
  have HRC := hide (rightM_calls N F A n c xs (w.alloc (.cells #[.int .i64 N, .int .i64 F, .slice A n c] 28)) hn hm (hA.of_below b0) hT)
  cases hr : Sg.rightM ⟨N, F, Sg.dats xs⟩
  · rw [hr] at HRC
    have HE := hide (Sg.wm_no hr)
    clear hr hn hA hT
    go_enter Try.func12, Try.ntmps12
    go_wp2_with fail
    refine HRC.out.mono ?_
    rintro e w1 ⟨rfl, b1⟩
    go_wp2
    go_ret2
    rw [HE.out.1, HE.out.2]
    exact ⟨_, _, _, rfl, Own8.nil _ _, by simp [blkOf], b0.trans (b1.mono b0.size)⟩
  · rw [hr] at HRC
    have HE := hide (Sg.wm_yes hr)
    have HRB := hide (Sg.boxM_right hr)
    obtain ⟨⟨a, rfl, ha⟩, ⟨f, rfl, hf⟩, l1, l2, hp, h19, hz9⟩ := med_facts hr
    have HZ2 := hide hz9
    have HP := hide hp
    have H19 := hide h19
    have HLN := hide (lens_le hA h19)
    have HFL := hide (fours_lens hA)
    have HN := hide hn
    have hn64 : n ≤ 64 := by rw [hn]; exact l2
    have HX : Hid (Sg.boxM ⟨(a : Int), (f : Int), Sg.dats xs⟩ = [(Sg.kHead, [] ++ fours [a, f, n]), (Sg.kTabl, [] ++ fours (lens xs)), (Sg.kData, (Sg.dats xs).flatten)]) := by
      rw [HFL.out, List.nil_append, List.nil_append]
      show [(Sg.kHead, Bx.four (a : Int).toNat ++ Bx.four (f : Int).toNat ++ Bx.four (Sg.dats xs).length), (Sg.kTabl, Sg.table (Sg.dats xs)), (Sg.kData, (Sg.dats xs).flatten)] = _
      rw [Int.toNat_natCast, Int.toNat_natCast, Sg.length_dats, ← hn, List.append_assoc]
      simp [fours]
    have HFI : Hid (Sg.fileM ⟨(a : Int), (f : Int), Sg.dats xs⟩ = Sg.sealB (Sg.boxM ⟨(a : Int), (f : Int), Sg.dats xs⟩)) := rfl
    rw [HX.out] at HRB HFI HZ2
    have HLL : Hid (n = (lens xs).length) := by unfold lens; rw [List.length_map]; exact hn
    have hmk : ∀ w', Sem.run Try.prog (Instr.makeSlice 57 (.int .i64 0) (.int .i64 (n : Int))) w' = .ok (.slice (some ⟨w'.heap.size, 0, none⟩) 0 n) (w'.alloc (.cells (madeCells #[.int .i64 0] n) 3)) := fun w' => by
      obtain ⟨ht, _, i, z, hi, hz, hsize, hby, _⟩ := intsT
      have hz' : i.zero = some (.int .i64 0) := by
        have : (Try.prog.info? 3).map (fun i => i.zero) = some (some (.int .i64 0)) := by kernel_rfl
        rw [hi] at this
        simpa using this
      have := run_make0 (P := Try.prog) 57 3 i _ ht hi hz' .i64 .i64 n (by rw [hby]; omega) (by unfold maxLen; omega) w'
      rw [hsize, Nat.mul_one] at this
      exact this
    have HA := hide hA
    clear hr HX hn hz9 hp h19 hT hA l1 l2
    go_enter Try.func12, Try.ntmps12
    go_wp2_with fail
    refine HRC.out.mono ?_
    rintro e w1 ⟨rfl, b1⟩
    have bk1 := bk.below b1 bk.lt
    have bel1 : Below w.heap.size w w1 := b0.trans (b1.mono b0.size)
    clear c0 c1 c2 b0 b1 bk
    have c2 : w1.cell? ⟨w.heap.size, 2, none⟩ = some (.slice A n c) := bk1.cell 2
    have own0 := OwnR.new0 w1 (madeCells #[.int .i64 0] n) 3 1 n (by rw [size_madeCells, Nat.mul_one]) (by unfold maxLen; omega)
    have bel0 := bel1.alloc bel1.size (.cells (madeCells #[.int .i64 0] n) 3)
    have bk0 := bk1.alloc (.cells (madeCells #[.int .i64 0] n) 3)
    have d2 : (w1.alloc (.cells (madeCells #[.int .i64 0] n) 3)).cell? ⟨w.heap.size, 2, none⟩ = some (.slice A n c) := bk0.cell 2
    have hlt1 := bk1.lt
    go_wp2_with fail
    generalize w1.alloc (.cells (madeCells #[.int .i64 0] n) 3) = W0 at *
    clear hmk
    go_loopw [4, 17] (fun sv iv wr => ∃ (k n1 c1 : Nat) (A1 : Option Addr), k ≤ n ∧ iv = .int .i64 (k : Int) ∧ sv = .slice A1 n1 c1 ∧ OwnR wr 3 1 A1 n1 c1 (lenRows (xs.take k)) ∧ (∀ g, blkOf A1 = some g → w.heap.size < g) ∧ Blk wr w.heap.size 28 #[.int .i64 (a : Int), .int .i64 (f : Int), .slice A n c] ∧ Below w.heap.size w wr) (fun _ iv _ => n - (intOf iv).toNat)
    case atStart => exact ⟨0, 0, n, _, by omega, rfl, rfl, own0, by intro g hg; simp [blkOf] at hg; omega, bk0, bel0⟩
    case round =>
      obtain ⟨k, n1, c1, A1, hk, rfl, rfl, own, gA, bkr, bel⟩ := hrel
      clear own0 bel0 bk0 d2
      by_cases hlt : k < n
      · have hkx : k < xs.length := by rw [← HN.out]; exact hlt
        obtain ⟨b, off, rfl, hb, q0, _⟩ := (HA.out.below bel).at_ hkx
        have HT := hide (lenRows_snoc hkx)
        have hn1 : n1 ≤ 64 := by have := own.1; unfold lenRows lens ints at this; rw [List.length_map, List.length_map, List.length_map, List.length_take] at this; omega
        obtain ⟨x, hx⟩ : ∃ x, xs[k] = x := ⟨_, rfl⟩
        rw [hx] at q0 HT
        obtain ⟨xA, xn, xc, xd⟩ := x
        dsimp only at q0 HT
        clear hx
        have i0 : (0 : Int) ≤ (k : Int) := by omega
        have i1 : (k : Int) < (n : Int) := by omega
        have recN := Recs.new wr #[.int .i64 (xn : Int)] 3 (0, 0) 1 [.int .i64 (xn : Int)] rfl rfl
        have own1 := own.alloc (.cells #[.int .i64 (xn : Int)] 3)
        have bel1' := bel.alloc bel.size (.cells #[.int .i64 (xn : Int)] 3)
        have bk1' := bkr.alloc (.cells #[.int .i64 (xn : Int)] 3)
        go_wp2_with (at_builtin; refine wpList_appendR (by rfl) (.tmp 21) (.tmp 24) 57 3 1 8 (by rfl) intsT _ _ _ _ (by rfl) own1 _ _ _ _ [[.int .i64 (xn : Int)]] (by rfl) recN (by rfl) (by simp) (by simp [Value.oneCell']) (by omega) (by unfold maxLen; omega) ?_; intro A2 c2' w2 own2 grow2 at2)
        rw [← HT.out] at own2
        have bk2 := bk1'.grown grow2 (fun e => by have := gA _ e.symm; omega)
        go_roundw
        case rel =>
          refine ⟨k + 1, n1 + 1, c2', A2, by omega, by go_num, rfl, own2, ?_, bk2, bel1'.grown grow2 bel1'.size (fun g hg => by have := gA g hg; omega)⟩
          intro g hg
          rcases at2 with e | e
          · exact gA g (by rw [← e]; exact hg)
          · rw [hg] at e; injection e with e; rw [e]; exact bk1'.lt
        case measure => simp [intOf]; omega
      · obtain rfl : n = k := by omega
        have HT := hide (List.take_of_length_le (l := xs) (i := n) (by rw [← HN.out]; omega))
        rw [HT.out] at own
        have hn1 : n1 = n := by have := own.1; unfold lenRows lens ints at this; rw [List.length_map, List.length_map, List.length_map] at this; rw [this]; exact HN.out.symm
        subst hn1
        clear hlt hlt1
        generalize hU : (wr.alloc (.cells #[.int .i64 (a : Int), .int .i64 (f : Int), .int .i64 (n1 : Int)] 3)).drew = U
        have vN : Vals U U.heap.size (some ⟨wr.heap.size, 0, none⟩) (ints [a, f, n1]) := by
          have h := Vals.newN wr #[.int .i64 (a : Int), .int .i64 (f : Int), .int .i64 (n1 : Int)] 3 (0, 0) (ints [a, f, n1]) rfl
          have hz : U.heap.size = wr.heap.size + 1 := by rw [← hU]; simp
          rw [hz, ← hU]; exact h
        have bU : Below wr.heap.size wr U := by rw [← hU]; exact ((Below.refl _ _).alloc (Nat.le_refl _) _).drew
        have hzU : wr.heap.size < U.heap.size := by rw [← hU]; simp
        have HF1 := hide (fields_calls none (some ⟨wr.heap.size, 0, none⟩) 0 0 3 3 [] [a, f, n1] U U.heap.size rfl (by decide) (by decide) (by
          intro k hk
          rcases List.mem_cons.1 hk with rfl | hk
          · omega
          · rcases List.mem_cons.1 hk with rfl | hk
            · omega
            · rw [List.mem_singleton.1 hk]; omega) (OwnF.nil _ _) (by simp [blkOf]) (Nat.le_refl _) vN (by
          intro b hb
          have hb : wr.heap.size = b := by simpa [blkOf] using hb
          exact ⟨by omega, by simp [blkOf]⟩))
        have bkU := bkr.below bU bkr.lt
        have belU := bnext bel bU
        have ownU := own.next bU
        have sU : U.cell? ⟨w.heap.size, 0, none⟩ = some (.int .i64 (a : Int)) ∧ U.cell? ⟨w.heap.size, 1, none⟩ = some (.int .i64 (f : Int)) ∧ U.cell? ⟨w.heap.size, 2, none⟩ = some (.slice A n1 c) := med_cells bkU
        have sd : wr.drew.cell? ⟨w.heap.size, 0, none⟩ = some (.int .i64 (a : Int)) ∧ wr.drew.cell? ⟨w.heap.size, 1, none⟩ = some (.int .i64 (f : Int)) ∧ wr.drew.cell? ⟨w.heap.size, 2, none⟩ = some (.slice A n1 c) := med_cells bkr.drew
        subst hU
        go_wp2_with fail
        go_region_held3 (fun w' => w'.cell? ⟨w.heap.size, 0, none⟩ = some (.int .i64 (a : Int)) ∧ w'.cell? ⟨w.heap.size, 1, none⟩ = some (.int .i64 (f : Int)) ∧ w'.cell? ⟨w.heap.size, 2, none⟩ = some (.slice A n1 c))
          (first | with_reducible exact sd | with_reducible exact sU | with_reducible exact s5 | with_reducible exact s6 | with_reducible exact s7 | with_reducible exact s8 | with_reducible exact s9 | (trace "KEEP"; trace_state; fail))
          (first
            | (go_at_call 27; ((with_reducible refine HF1.out.mono ?_)); rintro e w5 ⟨A5, n5, c5, rfl, o5, g5, b5⟩; have bk5 := bkU.below b5 bkU.lt; have bel5 := bnext belU b5; have own5 := ownU.next b5; have s5 : w5.cell? ⟨w.heap.size, 0, none⟩ = some (.int .i64 (a : Int)) ∧ w5.cell? ⟨w.heap.size, 1, none⟩ = some (.int .i64 (f : Int)) ∧ w5.cell? ⟨w.heap.size, 2, none⟩ = some (.slice A n1 c) := med_cells bk5; have HF2 := hide (fields_calls none A1 0 0 n1 c1 [] (lens xs) w5 w5.heap.size HLL.out (by omega) (by decide) HLN.out (OwnF.nil _ _) (by simp [blkOf]) (Nat.le_refl _) own5.vals (fun b hb => ⟨own5.lt b hb, by simp [blkOf]⟩)))
            | (go_at_call 27; ((with_reducible refine HF2.out.mono ?_)); rintro e w6 ⟨A6, n6, c6, rfl, o6, g6, b6⟩; have bk6 := bk5.below b6 bk5.lt; have bel6 := bnext bel5 b6; have o56 := o5.below b6 o5.lt; have s6 : w6.cell? ⟨w.heap.size, 0, none⟩ = some (.int .i64 (a : Int)) ∧ w6.cell? ⟨w.heap.size, 1, none⟩ = some (.int .i64 (f : Int)) ∧ w6.cell? ⟨w.heap.size, 2, none⟩ = some (.slice A n1 c) := med_cells bk6; have HF3 := hide (concat8_calls A n1 c xs w6 HN.out hm ((HA.out.below bel6).more bel6.size) (by have := H19.out; omega) HP.out))
            | (go_at_call 31; ((with_reducible refine HF3.out.mono ?_)); rintro e w7 ⟨A7, n7, c7, rfl, o7, g7, b7⟩; have bk7 := bk6.below b7 bk6.lt; have bel7 := bnext bel6 b7; have o57 := o56.below b7 o56.lt; have o67 := o6.below b7 o6.lt; have s7 : w7.cell? ⟨w.heap.size, 0, none⟩ = some (.int .i64 (a : Int)) ∧ w7.cell? ⟨w.heap.size, 1, none⟩ = some (.int .i64 (f : Int)) ∧ w7.cell? ⟨w.heap.size, 2, none⟩ = some (.slice A n1 c) := med_cells bk7; have hB := three_boxes ⟨#[104, 101, 97, 100]⟩ ⟨#[116, 97, 98, 108]⟩ ⟨#[100, 97, 116, 97]⟩ A5 A6 A7 n5 n6 n7 c5 c6 c7 _ _ _ w7 o57.1 o67.1 o7.1 o57.max o67.max (Bx.own8_max o7) o57.byt o67.byt o7.byt; have bV : Below w7.heap.size w7 (w7.alloc (.cells #[.string ⟨#[104, 101, 97, 100]⟩, .slice A5 n5 c5, .string ⟨#[116, 97, 98, 108]⟩, .slice A6 n6 c6, .string ⟨#[100, 97, 116, 97]⟩, .slice A7 n7 c7] 53)) := (Below.refl _ _).alloc (Nat.le_refl _) _; have HW2 := hide (seal_calls (some ⟨w7.heap.size, 0, none⟩) 3 3 _ _ rfl (by decide) hB HZ2.out HRB.out); have bel8 := bnext bel7 bV; have bk8 := bk7.below bV bk7.lt; have s8 : (w7.alloc (.cells #[.string ⟨#[104, 101, 97, 100]⟩, .slice A5 n5 c5, .string ⟨#[116, 97, 98, 108]⟩, .slice A6 n6 c6, .string ⟨#[100, 97, 116, 97]⟩, .slice A7 n7 c7] 53)).cell? ⟨w.heap.size, 0, none⟩ = some (.int .i64 (a : Int)) ∧ (w7.alloc (.cells #[.string ⟨#[104, 101, 97, 100]⟩, .slice A5 n5 c5, .string ⟨#[116, 97, 98, 108]⟩, .slice A6 n6 c6, .string ⟨#[100, 97, 116, 97]⟩, .slice A7 n7 c7] 53)).cell? ⟨w.heap.size, 1, none⟩ = some (.int .i64 (f : Int)) ∧ (w7.alloc (.cells #[.string ⟨#[104, 101, 97, 100]⟩, .slice A5 n5 c5, .string ⟨#[116, 97, 98, 108]⟩, .slice A6 n6 c6, .string ⟨#[100, 97, 116, 97]⟩, .slice A7 n7 c7] 53)).cell? ⟨w.heap.size, 2, none⟩ = some (.slice A n1 c) := med_cells bk8)
            | (go_at_call 26; ((with_reducible refine HW2.out.mono ?_)); rintro e w9 ⟨A9, n9, c9, rfl, o9, g9, b9⟩; have bk9 := bk8.below b9 bk8.lt; have s9 : w9.cell? ⟨w.heap.size, 0, none⟩ = some (.int .i64 (a : Int)) ∧ w9.cell? ⟨w.heap.size, 1, none⟩ = some (.int .i64 (f : Int)) ∧ w9.cell? ⟨w.heap.size, 2, none⟩ = some (.slice A n1 c) := med_cells bk9))
        all_goals
          go_wp2
          go_ret2
          rw [HE.out.1, HE.out.2, HFI.out]
          exact ⟨_, _, _, rfl, o9, fun g hg => Nat.le_trans bel8.size (g9 g hg), bnext bel8 b9⟩
end Go.Proofs.Ytakglalebjkpeaa.C17
