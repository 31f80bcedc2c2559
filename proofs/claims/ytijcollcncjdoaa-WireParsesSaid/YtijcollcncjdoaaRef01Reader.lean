/- The document's reader, each function by its contract. Conditions: the object is as the calls leave it; at most 2^40 bits. -/
import Derived.Test.YtijcollcncjdoaaRef01Writer
import Derived.Test.YtijcollcncjdoaaCut
import Derived.BigQuiet
import Derived.Deep.QuietTactic
namespace Go.Proofs.Ytijcollcncjdoaa
open Go.RowKit Kin

theorem Own8.form {w : World} {e : TypeId} {A : Option Addr} {n c : Nat} {l : List UInt8} (h : Kin.Own8 w e A n c l) : (A = none ∧ n = 0 ∧ c = 0) ∨ ∃ g, A = some ⟨g, 0, none⟩ ∧ n ≤ c ∧ c ≤ maxLen := by
  rcases h.2.2 with ⟨hv, _⟩ | ⟨g, cap, cur, hv, _, _, h1, h2, _, _⟩
  · injection hv with h1 h2 h3
    exact .inl ⟨h1, h2, h3⟩
  · injection hv with h3 h4 h5
    subst h5
    exact .inr ⟨g, h3, h1, h2⟩

/-- at block g lies the document's reader of the bits B, at bit k, its row in block R -/
def RefRIs (w : World) (g : Nat) (R : Option Nat) (B : List Bool) (k : Nat) : Prop :=
  (∃ A n c, Blk w g 89 #[.slice A n c, .int .i64 (k : Int)] ∧ Kin.Own8 w 5 A n c (Bit.zo B) ∧ blkOf A = R) ∧ k ≤ B.length ∧ B.length ≤ 1099511627776
theorem RefRIs.lt {w : World} {g k : Nat} {R : Option Nat} {B : List Bool} (h : RefRIs w g R B k) : g < w.heap.size := by
  obtain ⟨⟨A, n, c, h1, _, _⟩, _⟩ := h
  exact h1.lt
theorem RefRIs.rlt {w : World} {g k : Nat} {R : Option Nat} {B : List Bool} (h : RefRIs w g R B k) : ∀ r, R = some r → r < w.heap.size := by
  obtain ⟨⟨A, n, c, _, h2, h3⟩, _⟩ := h
  intro r hr
  exact h2.lt r (by rw [h3]; exact hr)
theorem RefRIs.keep {S : Nat → Prop} {w w' : World} {g k : Nat} {R : Option Nat} {B : List Bool} (h : RefRIs w g R B k) (hc : Chg S w w') (hn : ∀ k, Foot g R k → ¬ S k) : RefRIs w' g R B k := by
  obtain ⟨⟨A, n, c, h1, h2, h3⟩, h4⟩ := h
  exact ⟨⟨A, n, c, hc.blk h1 (hn g (.inl rfl)), hc.own h2 (fun k hk => hn k (.inr (by rw [← h3]; exact hk))), h3⟩, h4⟩
theorem RefRIs.below {w w' : World} {g k : Nat} {R : Option Nat} {B : List Bool} (h : RefRIs w g R B k) (hc : Below w.heap.size w w') : RefRIs w' g R B k :=
  h.keep (S := fun _ => False) (Chg.of_below hc) (fun _ _ e => e)

theorem refReader_zero : (Try.prog.info? 89).map (fun i => (i.zero, i.size)) = some (some (.agg #[.slice none 0 0, .int .i64 0]), 2) := by kernel_rfl
/-- a new reader of the document's -/
def RetRefR (w : World) (B : List Bool) (e : Ending) (w' : World) : Prop :=
  ∃ g R, e = .returned (.pointer (some ⟨g, 0, none⟩)) ∧ RefRIs w' g R B 0 ∧ w.heap.size ≤ g ∧ (∀ r, R = some r → w.heap.size ≤ r) ∧ Below w.heap.size w w'
set_option maxRecDepth 100000 in
set_option maxHeartbeats 1000000 in
theorem refopen_calls (A : Option Addr) (n c : Nat) (l : List UInt8) (w : World) (hn : n = l.length) (hm : n ≤ 300) {b : Nat} (hA : Byt w b A l) :
    Calls Try.prog 46 #[.slice A n c] w (RetRefR w (Bit.row l)) := by
  have hz := (zero_of_info refReader_zero).1
  have hrl : (Bit.row l).length ≤ 1099511627776 := by rw [Bit.length_row]; omega
  have HL := hide hrl
  have HN := hide hn
  clear hrl hn
  go_enter Try.func46, Try.ntmps46
  go_wp2_with fail
  refine (row_calls A n c l _ HN.out hm hA).mono ?_
  rintro e w1 ⟨A1, n1, c1, rfl, o1, g1, b1⟩
  have hb : Blk (w1.alloc (Obj.cells #[.slice A1 n1 c1, .int .i64 0] 89)) w1.heap.size 89 #[.slice A1 n1 c1, .int .i64 ((0 : Nat) : Int)] := Blk.new _ _ _
  have o2 := o1.alloc (Obj.cells #[.slice A1 n1 c1, .int .i64 0] 89)
  have b2 := b1.alloc b1.size (Obj.cells #[.slice A1 n1 c1, .int .i64 0] 89)
  have HE : Hid (RetRefR w (Bit.row l) (.returned (.pointer (some ⟨w1.heap.size, 0, none⟩))) (w1.alloc (Obj.cells #[.slice A1 n1 c1, .int .i64 0] 89))) :=
    ⟨w1.heap.size, blkOf A1, rfl, ⟨⟨A1, n1, c1, hb, o2, rfl⟩, Nat.zero_le _, HL.out⟩, b1.size, g1, b2⟩
  clear hb o2 b2 o1 g1 b1 HL hA
  go_wp2
  go_ret
  exact HE.out

set_option maxRecDepth 100000 in
theorem next_calls (g : Nat) (R : Option Nat) (B : List Bool) (k : Nat) (w : World) (h : RefRIs w g R B k) :
    Calls Try.prog 60 #[.pointer (some ⟨g, 0, none⟩)] w fun e w' => e = .returned (.int .i64 ((8 * ((k + 7) / 8) : Nat) : Int)) ∧ w = w' := by
  obtain ⟨⟨A, n, c, h1, _, _⟩, hk, hB⟩ := h
  have c1 : w.cell? ⟨g, 1, none⟩ = some (.int .i64 (k : Int)) := h1.cell 1
  have hk' : k ≤ 1099511627776 := by omega
  clear hk hB
  go_enter Try.func60, Try.ntmps60
  go_wp2
  go_ret
  exact ⟨ret_int (by go_num), rfl⟩

theorem quiet_left {P : Program} {f : FuncId} {args : Array Value} {w : World} {n : Nat} {v : Value}
    (h : Calls P f args (w.drewN n) fun e w' => e = .returned v ∧ w.drewN n = w') : Calls P f args (w.drewN n) fun e w'' => e = .returned v ∧ ∃ m, w'' = w.drewN m :=
  h.mono fun _ _ ⟨he, hm⟩ => ⟨he, n, hm.symm⟩

theorem Own8.cap {w : World} {e : TypeId} {A : Option Addr} {n c : Nat} {l : List UInt8} (h : Kin.Own8 w e A n c l) : n ≤ c := by
  rcases Own8.form h with ⟨_, rfl, rfl⟩ | ⟨g, _, h1, _⟩
  · exact Nat.le_refl _
  · exact h1

/-- are the bits from k up to the next whole byte noughts? -/
def Bit.restB (B : List Bool) (k : Nat) : Bool := ((B.drop k).take (8 * ((k + 7) / 8) - k)).all (! ·)

theorem restB_at {B : List Bool} {k i : Nat} (h : Bit.restB B k = true) (h1 : k ≤ i) (h2 : i < 8 * ((k + 7) / 8)) (h3 : i < B.length) : B[i] = false := by
  unfold Bit.restB at h
  rw [List.all_eq_true] at h
  have : B[i] ∈ (B.drop k).take (8 * ((k + 7) / 8) - k) := by
    rw [List.mem_iff_getElem?]
    refine ⟨i - k, ?_⟩
    rw [List.getElem?_take_of_lt (by omega), List.getElem?_drop, show k + (i - k) = i from by omega, List.getElem?_eq_getElem h3]
  simpa using h _ this
theorem restB_of {B : List Bool} {k : Nat} (h : ∀ i, k ≤ i → i < 8 * ((k + 7) / 8) → B.getD i false = false) : Bit.restB B k = true := by
  unfold Bit.restB
  rw [List.all_eq_true]
  intro b hb
  obtain ⟨j, hj⟩ := List.mem_iff_getElem?.1 hb
  rw [List.getElem?_take] at hj
  split at hj
  · rw [List.getElem?_drop] at hj
    have := h (k + j) (by omega) (by omega)
    rw [List.getD, hj] at this
    simpa using this
  · cases hj

/-- what an alignment answers, and where it leaves the reader -/
def alE (ok : Bool) : Int := if ok then 0 else 11
def alK (ok : Bool) (k : Nat) : Nat := if ok then 8 * ((k + 7) / 8) else k

set_option maxRecDepth 100000 in
set_option maxHeartbeats 2000000 in
theorem refralign_calls (g : Nat) (R : Option Nat) (B : List Bool) (k : Nat) (w : World) (h : RefRIs w g R B k) (h8 : B.length % 8 = 0) :
    Calls Try.prog 48 #[.pointer (some ⟨g, 0, none⟩)] w
      fun e w' => e = .returned (.int .i64 (alE (Bit.restB B k))) ∧ RefRIs w' g R B (alK (Bit.restB B k) k) ∧ Chg (One g) w w' := by
  have hh := h
  obtain ⟨⟨A, m, c, h1, h2, hR⟩, hk, hB⟩ := h
  have hm : m = B.length := by rw [h2.1, Bit.length_zo]
  have hN : 8 * ((k + 7) / 8) ≤ m := by omega
  have HM := hide hm
  have HH := hide hh
  have hm40 : m ≤ 1099511627776 := by omega
  have hk40 : k ≤ 1099511627776 := by omega
  have HNX := fun w' (h' : RefRIs w' g R B k) => next_calls g R B k w' h'
  have HNX := hide HNX
  obtain ⟨N, hNN⟩ : ∃ N, N = 8 * ((k + 7) / 8) := ⟨_, rfl⟩
  have hkN : k ≤ N := by omega
  have hN8 : N ≤ m := by omega
  rw [← hNN] at HNX
  have HNN := hide hNN
  have c1 : w.cell? ⟨g, 1, none⟩ = some (.int .i64 (k : Int)) := h1.cell 1
  clear hm hk hB h8 hN hNN hh
  go_enter Try.func48, Try.ntmps48
  go_wp2
  go_loop [3] (fun iv => ∃ i : Nat, k ≤ i ∧ i ≤ N ∧ iv = .int .i64 (i : Int) ∧ Hid (∀ j, k ≤ j → j < i → B.getD j false = false)) (fun iv => N - (intOf iv).toNat)
  case atStart => exact ⟨k, Nat.le_refl _, hkN, rfl, fun j h1 h2 => absurd h2 (by omega)⟩
  case round =>
    obtain ⟨i, hki, hiN, rfl, HZ⟩ := hrel
    by_cases hlt : i < N
    · have c0 : w.cell? ⟨g, 0, none⟩ = some (.slice A m c) := h1.cell 0
      have hiB : i < B.length := by rw [← HM.out]; omega
      obtain ⟨r, off, rfl, _, hc⟩ := h2.byt.at_ (k := i) (by rw [Bit.length_zo]; exact hiB)
      have hzo : (Bit.zo B)[i]'(by rw [Bit.length_zo]; exact hiB) = Bit.one B[i] := by
        have e1 := Bit.zo_at B i
        rw [List.getElem?_eq_getElem (by rw [Bit.length_zo]; exact hiB), List.getElem?_eq_getElem hiB] at e1
        simpa using e1
      rw [hzo, Bit.one_toNat] at hc
      clear hzo
      have hgd : B.getD i false = B[i] := by rw [List.getD, List.getElem?_eq_getElem hiB]; rfl
      have HGD := hide hgd
      have HRA : Hid (Bit.restB B k = true → B[i] = false) := fun hr => restB_at hr hki (by rw [← HNN.out]; exact hlt) hiB
      clear hgd
      by_cases hb : B[i] = true
      · rw [hb] at hc
        have hc' : w.cell? ⟨r, off + i, none⟩ = some (.int .u8 1) := hc
        have HF : Hid (Bit.restB B k = false) := by
          cases hr : Bit.restB B k
          · exact rfl
          · have := HRA.out hr; rw [hb] at this; cases this
        clear hc hb
        go_wp2_with (go_at_call 60; refine (HNX.out _ HH.out).mono ?_; rintro e w1 ⟨rfl, rfl⟩)
        go_ret
        rw [HF.out]
        exact ⟨rfl, HH.out, Chg.refl _ _⟩
      · have hb' : B[i] = false := by simpa using hb
        rw [hb'] at hc HGD
        have hc' : w.cell? ⟨r, off + i, none⟩ = some (.int .u8 0) := hc
        clear hc hb hb' HRA
        go_wp2_with (go_at_call 60; refine (HNX.out _ HH.out).mono ?_; rintro e w1 ⟨rfl, rfl⟩)
        go_round
        case rel =>
          refine ⟨i + 1, by omega, by omega, by go_num, fun j h1 h2 => ?_⟩
          by_cases hji : j = i
          · subst hji; exact HGD.out
          · exact HZ.out j h1 (by omega)
        case measure => simp [intOf]; omega
    · obtain rfl : i = N := by omega
      have HT : Hid (Bit.restB B k = true) := restB_of fun j h1 h2 => HZ.out j h1 (by rw [HNN.out]; exact h2)
      have f1 := h1.frozen 1
      have hne : blkOf A ≠ some g := by have := own_blk_ne h2.2 h1 (by decide); rwa [ownBlock_slice] at this
      have HNE := hide hne
      clear hlt HZ hne
      go_wp2_with (go_at_call 60; refine (HNX.out _ HH.out).mono ?_; rintro e w1 ⟨rfl, rfl⟩)
      go_ret
      rw [HT.out]
      refine ⟨rfl, ⟨⟨A, m, c, ?_, h2.setFar (p := ⟨g, 1, none⟩) HNE.out _, hR⟩, ?_, HH.out.2.2⟩, (Chg.refl (One g) w).setCell (p := ⟨g, 1, none⟩) (.inl rfl) _⟩
      · have := h1.set_ 1 (.int .i64 (i : Int))
        rw [show alK true k = i from HNN.out.symm]
        simpa using this
      · rw [show alK true k = i from HNN.out.symm, ← HM.out]; exact hN8

set_option maxRecDepth 100000 in
set_option maxHeartbeats 2000000 in
theorem refrest_calls (g : Nat) (R : Option Nat) (B : List Bool) (k : Nat) (w : World) (h : RefRIs w g R B k) (h8 : B.length % 8 = 0) :
    Calls Try.prog 49 #[.pointer (some ⟨g, 0, none⟩)] w (RetBytes w (Bit.pack (B.drop (8 * ((k + 7) / 8))))) := by
  have HH := hide (h.below (Below.refl _ _).drew)
  obtain ⟨⟨A, m, c, h1, h2, hR⟩, hk, hB⟩ := h
  have hm : m = B.length := by rw [h2.1, Bit.length_zo]
  have hmc := Own8.cap h2
  have HNX := fun w' (h' : RefRIs w' g R B k) => next_calls g R B k w' h'
  have HNX := hide HNX
  obtain ⟨N, hNN⟩ : ∃ N, N = 8 * ((k + 7) / 8) := ⟨_, rfl⟩
  have hN8 : N ≤ m := by omega
  rw [← hNN] at HNX
  rw [← hNN]
  have hsl := run_cut8l bytesT A m c .i64 N N rfl hN8
  have HBY : Hid (∀ w', Byt w' w'.heap.size A (Bit.zo B) → Byt w' w'.heap.size (cutA A c N) (Bit.zo (B.drop N))) := fun w' hb => by
    rw [← Bit.zo_drop]
    exact hb.cut N (by rw [Bit.length_zo, ← hm]; exact hmc)
  have HLEN : Hid (m - N = (B.drop N).length) := by show _ = _; rw [List.length_drop, ← hm]
  have hm40 : m - N ≤ 1099511627776 := by omega
  clear hm hk hB h8 hNN hmc
  generalize B.drop N = D at *
  generalize cutA A c N = A' at *
  generalize hmn : m - N = mN at *
  generalize c - N = cN at *
  clear hmn
  have h1d := h1.drew
  have h2d := h2.drew
  go_enter Try.func49, Try.ntmps49
  go_wp2
  go_region_held3 (fun w' => w'.cell? ⟨g, 0, none⟩ = some (.slice A m c))
    (first | exact h1d.cell 0 | exact (h1d.below b2 h1d.lt).cell 0)
    (first
      | (go_at_call 60; ((with_reducible refine (HNX.out _ HH.out).mono ?_)); rintro e w1 ⟨rfl, rfl⟩)
      | (go_at_call 36; ((with_reducible refine (pack_calls A' mN cN D _ HLEN.out hm40 (HBY.out _ h2d.byt)).mono ?_)); rintro e t2 ⟨A2, n2, c2, rfl, o2, g2, b2⟩))
  all_goals
    go_wp2
    go_ret
    exact ⟨A2, n2, c2, rfl, o2, g2, (Below.refl w.heap.size w).drew.trans b2⟩
end Go.Proofs.Ytijcollcncjdoaa
