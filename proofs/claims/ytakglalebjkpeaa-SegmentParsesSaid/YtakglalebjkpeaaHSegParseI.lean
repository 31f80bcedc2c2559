/- The init of bytes, by the contract of the program's function. Conditions: at most 1000000 bytes. -/
import Derived.Test.YtakglalebjkpeaaHSegOpen
import Derived.Test.YtakglalebjkpeaaHSegWriteI
import Derived.Test.YtakglalebjkpeaaHSyn
namespace Go.Proofs.Ytakglalebjkpeaa.C17
open Go.RowKit Kin Go.Proofs.Ytakglalebjkpeaa Go.Proofs.Ytakglalebjkpeaa.C16

abbrev zini : Sg.Ini := ⟨⟨#[]⟩, 0, 0, 0, 0, 0⟩
abbrev zrow : Array Value := #[.string ⟨#[]⟩, .int .i64 0, .int .i64 0, .int .i64 0, .int .i64 0, .int .i64 0]
def RetIni (w : World) (i : Sg.Ini) (E : Int) (e : Ending) (w' : World) : Prop := e = .returned (.tuple #[iniV i, .int .i64 E]) ∧ Below w.heap.size w w'
theorem ini_frozen {w : World} {g : Nat} {t : TypeId} {cs : Array Value} (h : Blk w g t cs) : w.frozen? ⟨g, 0, none⟩ = false ∧ w.frozen? ⟨g, 1, none⟩ = false ∧ w.frozen? ⟨g, 2, none⟩ = false ∧ w.frozen? ⟨g, 3, none⟩ = false ∧ w.frozen? ⟨g, 4, none⟩ = false ∧ w.frozen? ⟨g, 5, none⟩ = false :=
  ⟨h.frozen 0, h.frozen 1, h.frozen 2, h.frozen 3, h.frozen 4, h.frozen 5⟩
/-- six stores -/
def six (w : World) (g : Nat) (a b c d e f : Value) : World := (((((w.setCell ⟨g, 0, none⟩ a).setCell ⟨g, 1, none⟩ b).setCell ⟨g, 2, none⟩ c).setCell ⟨g, 3, none⟩ d).setCell ⟨g, 4, none⟩ e).setCell ⟨g, 5, none⟩ f
theorem six_blk {w : World} {g : Nat} {t : TypeId} {p q r s u v : Value} (h : Blk w g t #[p, q, r, s, u, v]) (a b c d e f : Value) : Blk (six w g a b c d e f) g t #[a, b, c, d, e, f] :=
  (((((h.set_ 0 a).set_ 1 b).set_ 2 c).set_ 3 d).set_ 4 e).set_ 5 f
theorem six_below {w W : World} {B g : Nat} (h : Below B w W) (hg : B ≤ g) (a b c d e f : Value) : Below B w (six W g a b c d e f) :=
  (((((h.setCell (p := ⟨g, 0, none⟩) hg a).setCell (p := ⟨g, 1, none⟩) hg b).setCell (p := ⟨g, 2, none⟩) hg c).setCell (p := ⟨g, 3, none⟩) hg d).setCell (p := ⟨g, 4, none⟩) hg e).setCell (p := ⟨g, 5, none⟩) hg f
theorem six_far {w : World} {g k : Nat} {t : TypeId} {cs : Array Value} (h : Blk w k t cs) (hk : k ≠ g) (a b c d e f : Value) : Blk (six w g a b c d e f) k t cs :=
  (((((h.far (p := ⟨g, 0, none⟩) hk a).far (p := ⟨g, 1, none⟩) hk b).far (p := ⟨g, 2, none⟩) hk c).far (p := ⟨g, 3, none⟩) hk d).far (p := ⟨g, 4, none⟩) hk e).far (p := ⟨g, 5, none⟩) hk f

theorem op_small {b : List UInt8} {ks : List ByteArray} : Sg.opE b ks = 0 ∨ Sg.opE b ks = 161 ∨ Sg.opE b ks = 171 ∨ Sg.opE b ks = 172 := by
  unfold Sg.opE
  split
  · right; left; rfl
  · split
    · right; right; left; rfl
    · split
      · right; right; left; rfl
      · split
        · right; right; right; rfl
        · left; rfl
theorem three_of {xs : List Bx.Cel} {b : List UInt8} (h : Bx.boxs xs = Bx.boxes b) {k0 k1 k2 : ByteArray} (hk : (Bx.boxes b).map Prod.fst = [k0, k1, k2]) : ∃ x0 x1 x2, xs = [x0, x1, x2] ∧ Sg.D b 0 = x0.d ∧ Sg.D b 1 = x1.d := by
  obtain ⟨d0, d1, d2, e, e0, e1⟩ := Sg.len3 hk
  rw [e] at h
  match xs, h with
  | [x0, x1, x2], h =>
    simp [Bx.boxs, Bx.Cel.box] at h
    exact ⟨x0, x1, x2, rfl, by rw [e0, h.1.2], by rw [e1, h.2.1.2]⟩
theorem four_of {xs : List Bx.Cel} {b : List UInt8} (h : Bx.boxs xs = Bx.boxes b) {k0 k1 k2 k3 : ByteArray} (hk : (Bx.boxes b).map Prod.fst = [k0, k1, k2, k3]) : ∃ x0 x1 x2 x3, xs = [x0, x1, x2, x3] ∧ Sg.D b 0 = x0.d ∧ Sg.D b 1 = x1.d ∧ Sg.D b 2 = x2.d := by
  obtain ⟨d0, d1, d2, d3, e, e0, e1, e2⟩ := Sg.len4 hk
  rw [e] at h
  match xs, h with
  | [x0, x1, x2, x3], h =>
    simp [Bx.boxs, Bx.Cel.box] at h
    exact ⟨x0, x1, x2, x3, rfl, by rw [e0, h.1.2], by rw [e1, h.2.1.2], by rw [e2, h.2.2.1.2]⟩
theorem own8_cap' {w : World} {e : TypeId} {A : Option Addr} {n c : Nat} {l : List UInt8} (h : Own8 w e A n c l) : n ≤ c := own8_cap h
theorem D_len (b : List UInt8) (k : Nat) : (Sg.D b k).length ≤ 1048576 := by
  unfold Sg.D
  rcases h : (Bx.boxes b)[k]? with _ | x
  · simp
  · have := List.all_eq_true.1 (Bx.boxes_right b) x (List.mem_of_getElem? h)
    exact (Bx.right_of this).2
theorem mem_sizes : ∀ (L : List Bx.Box) (x : Bx.Box), x ∈ L → x.2.length ≤ Bx.sizes L
  | [], x, h => by cases h
  | y :: L, x, h => by
    show _ ≤ 8 + y.2.length + Bx.sizes L
    rcases List.mem_cons.1 h with rfl | h
    · omega
    · have := mem_sizes L x h; omega
theorem D_le {b : List UInt8} (he : Bx.even b = true) (k : Nat) : (Sg.D b k).length ≤ b.length := by
  have h1 := Bx.length_file _ (Bx.boxes_right b)
  rw [Bx.file_even he] at h1
  unfold Sg.D
  rcases h : (Bx.boxes b)[k]? with _ | x
  · simp
  · have := mem_sizes _ x (List.mem_of_getElem? h)
    simp only [Option.getD_some]
    omega
theorem own_three {w : World} {e e8 : TypeId} {A : Option Addr} {n c : Nat} {x0 x1 x2 : Bx.Cel} (h : Bx.OwnB w e e8 A n c [x0, x1, x2]) : ∃ g, A = some ⟨g, 0, none⟩ ∧ w.cell? ⟨g, 1, none⟩ = some (.slice x0.A x0.n x0.c) ∧ w.cell? ⟨g, 3, none⟩ = some (.slice x1.A x1.n x1.c) ∧ n = 3 ∧ x0.own w e8 ∧ x1.own w e8 := by
  have hn := h.len
  obtain ⟨g, r, hA, hr, _, hc⟩ := h.1.at_ (i := 0) (by rw [hn]; simp)
  obtain ⟨g', r', hA', hr', _, hc'⟩ := h.1.at_ (i := 1) (by rw [hn]; simp)
  rw [hA] at hA'
  injection hA' with hA'
  injection hA' with hA'
  subst hA'
  injection hr with hr
  injection hr' with hr'
  subst hr hr'
  exact ⟨g, hA, hc 1 _ rfl, hc' 1 _ rfl, hn, h.2 x0 (by simp), h.2 x1 (by simp)⟩
/-- what is answered of a candidate -/
theorem pi_cand {b : List UInt8} (h1 : Sg.opE b Sg.kI = 0) (h2 : 8 ≤ (Sg.D b 0).length) (h3 : C12.psOk (Sg.D b 1) = true) : Sg.piOk b = Sg.rightI (Sg.candI b) ∧ (Sg.rightI (Sg.candI b) = true → Sg.wiL (Sg.candI b) = b) := by
  constructor
  · cases h : Sg.rightI (Sg.candI b)
    · exact Sg.pi_false (fun x => by rw [x.2.2.2] at h; cases h)
    · exact Sg.pi_true h1 h2 h3 h
  · intro h
    rw [(Sg.wi_yes h).1]
    exact Sg.pi_file (Sg.pi_true h1 h2 h3 h)
theorem pi_bad {b : List UInt8} (h1 : Sg.opE b Sg.kI = 0) (h : Sg.piOk b = false) : Sg.piR b = zini ∧ Sg.piE b = 171 := by
  rw [(Sg.pi_no h).1, (Sg.pi_no h).2, if_pos h1]; exact ⟨rfl, rfl⟩
theorem pi_err {b : List UInt8} {E : Int} (h1 : Sg.opE b Sg.kI = E) (hE : E ≠ 0) : Sg.piR b = zini ∧ Sg.piE b = E := by
  have h : Sg.piOk b = false := Sg.pi_false (fun x => hE (h1.symm.trans x.1))
  rw [(Sg.pi_no h).1, (Sg.pi_no h).2, if_neg (by rw [h1]; exact hE)]; exact ⟨rfl, h1⟩

set_option maxRecDepth 100000 in
set_option maxHeartbeats 8000000 in
theorem parseI_calls (A : Option Addr) (n c : Nat) (b : List UInt8) (w : World) (hn : n = b.length) (hc : n ≤ c) (hm : n ≤ 900000) (hA : Byt w w.heap.size A b) :
    Calls Try.prog 20 #[.slice A n c] w (RetIni w (Sg.piR b) (Sg.piE b)) := by
  have b0 : Below w.heap.size w (w.alloc (.cells #[.string ⟨#[]⟩, .int .i64 0, .int .i64 0, .int .i64 0, .int .i64 0, .int .i64 0] 25)) := (Below.refl _ _).alloc (Nat.le_refl _) _
  have bk := Blk.new w 25 #[.string ⟨#[]⟩, .int .i64 0, .int .i64 0, .int .i64 0, .int .i64 0, .int .i64 0]
  have HN := hide hn
  have HA := hide hA
  clear hn hA
  go_enter Try.func20, Try.ntmps20
  go_wp2_with fail
  have HRz : Hid ((w.alloc (.cells #[.string ⟨#[]⟩, .int .i64 0, .int .i64 0, .int .i64 0, .int .i64 0, .int .i64 0] 25)).heap.size = w.heap.size + 1) := World.size_alloc _ _
  generalize w.alloc (.cells #[.string ⟨#[]⟩, .int .i64 0, .int .i64 0, .int .i64 0, .int .i64 0, .int .i64 0] 25) = R at *
  have vK := Vals.newN R #[.string ⟨#[104, 101, 97, 100]⟩, .string ⟨#[115, 101, 113, 117]⟩, .string ⟨#[115, 117, 109, 109]⟩] 9 (0, 0) (texts Sg.kI) rfl
  have hzK : (R.alloc (.cells #[.string ⟨#[104, 101, 97, 100]⟩, .string ⟨#[115, 101, 113, 117]⟩, .string ⟨#[115, 117, 109, 109]⟩] 9)).heap.size = R.heap.size + 1 := by simp
  rw [← hzK] at vK
  have bKK : Below R.heap.size R (R.alloc (.cells #[.string ⟨#[104, 101, 97, 100]⟩, .string ⟨#[115, 101, 113, 117]⟩, .string ⟨#[115, 117, 109, 109]⟩] 9)) := (Below.refl _ _).alloc (Nat.le_refl _) _
  have bkK := bk.below bKK bk.lt
  have belK := b0.trans (bKK.mono b0.size)
  clear hzK bKK
  rw [HRz.out] at vK
  generalize R.alloc (.cells #[.string ⟨#[104, 101, 97, 100]⟩, .string ⟨#[115, 101, 113, 117]⟩, .string ⟨#[115, 117, 109, 109]⟩] 9) = RK at *
  refine (open_calls A (some ⟨w.heap.size + 1, 0, none⟩) n c 3 3 b Sg.kI RK HN.out hc (by omega) ((HA.out.below belK).more belK.size) rfl (by decide) vK).mono ?_
  rintro e w2 ⟨A1, n1, c1, xs, rfl, ow, hxs, g1, b1⟩
  have bk2 := bkK.below b1 bkK.lt
  have bel2 := bnext belK b1
  clear vK bkK belK b1 b0 bk
  obtain ⟨z0, z1, z2, z3, z4, z5⟩ := ini_cells bk2
  obtain ⟨f0, f1, f2, f3, f4, f5⟩ := ini_frozen bk2
  have HXS := hide hxs
  clear hxs
  rcases op_small (b := b) (ks := Sg.kI) with hE | hE | hE | hE
  case' inl => skip
  case inr.inl | inr.inr.inl | inr.inr.inr =>
    have HE := hide (pi_err hE (by decide))
    rw [hE]
    have bz := six_blk bk2 (.string ⟨#[]⟩) (.int .i64 0) (.int .i64 0) (.int .i64 0) (.int .i64 0) (.int .i64 0)
    have bez := six_below bel2 (Nat.le_refl _) (.string ⟨#[]⟩) (.int .i64 0) (.int .i64 0) (.int .i64 0) (.int .i64 0) (.int .i64 0)
    unfold six at bz bez
    obtain ⟨y0, y1, y2, y3, y4, y5⟩ := ini_cells bz
    clear hE bz
    go_wp2
    refine bodyPost_ret (v := .tuple #[iniV zini, .int .i64 _]) (by simp [results, Try.results20, go_sem, y0, y1, y2, y3, y4, y5]; rfl) rfl ?_
    rw [HE.out.1, HE.out.2]
    exact ⟨rfl, bez⟩
  rw [opL_yes hE] at HXS
  obtain ⟨hev, hkk, _, _⟩ := Sg.op_of hE
  obtain ⟨x0, x1, x2, rfl, hD0, hD1⟩ := three_of HXS.out hkk
  obtain ⟨g, rfl, q0, q1, rfl, ow0, ow1⟩ := own_three ow
  obtain ⟨t0, A0, n0, k0, d0⟩ := x0
  obtain ⟨t1, A3, n3, k3, d1⟩ := x1
  dsimp only at hD0 hD1 q0 q1
  have ow0 : Own8 w2 5 A0 n0 k0 d0 := ow0
  have ow1 : Own8 w2 5 A3 n3 k3 d1 := ow1
  have HL0 := hide ow0.1
  have HL1 := hide ow1.1
  have hcap := own8_cap ow0
  have hl0 : n0 ≤ 900000 := by have := D_le hev 0; rw [hD0, ← HL0.out, ← HN.out] at this; omega
  have hl1 : n3 ≤ 900000 := by have := D_le hev 1; rw [hD1, ← HL1.out, ← HN.out] at this; omega
  have HD0 := hide hD0
  have HD1 := hide hD1
  have HE := hide hE
  rw [hE]
  clear hE hev hkk ow hD0 hD1
  have hg : g < w2.heap.size := block_lt_of_cell (a := ⟨g, 1, none⟩) q0
  by_cases h8 : n0 < 8
  · have HB := hide (pi_bad HE.out (Sg.pi_false (fun x => by have := x.2.1; rw [HD0.out, ← HL0.out] at this; omega)))
    have bz := six_blk bk2 (.string ⟨#[]⟩) (.int .i64 0) (.int .i64 0) (.int .i64 0) (.int .i64 0) (.int .i64 0)
    have bez := six_below bel2 (Nat.le_refl _) (.string ⟨#[]⟩) (.int .i64 0) (.int .i64 0) (.int .i64 0) (.int .i64 0) (.int .i64 0)
    unfold six at bz bez
    obtain ⟨y0, y1, y2, y3, y4, y5⟩ := ini_cells bz
    have iw : IntKind.i64.wrap ((n0 : Int) - 8) = (n0 : Int) - 8 := by rw [IntKind.wrap_i64]; omega
    have id : (n0 : Int) - 8 < 0 := by omega
    clear bz
    go_wp2
    refine bodyPost_ret (v := .tuple #[iniV zini, .int .i64 171]) (by simp [results, Try.results20, go_sem, y0, y1, y2, y3, y4, y5]) rfl ?_
    rw [HB.out.1, HB.out.2]
    exact ⟨rfl, bez⟩
  · obtain ⟨m, rfl⟩ : ∃ m, n0 = m + 8 := ⟨n0 - 8, by omega⟩
    have iw : IntKind.i64.wrap (((m + 8 : Nat) : Int) - 8) = (m : Int) := by rw [IntKind.wrap_i64]; omega
    have id : ¬ (m : Int) < 0 := by omega
    clear h8
    go_wp2_with fail
    refine (C12.parseSeq_calls A3 n3 k3 d1 w2 HL1.out (by omega) ow1.byt (Nat.le_refl _)).mono ?_
    rintro e w3 ⟨rfl, b3⟩
    have bk3 := bk2.below b3 bk2.lt
    have bel3 := bnext bel2 b3
    have o3 := ow0.below b3 ow0.lt
    clear z0 z1 z2 z3 z4 z5 f0 f1 f2 f3 f4 f5 q0 q1 bk2 bel2 ow0 ow1
    cases hps : C12.psOk d1
    · have HB := hide (pi_bad HE.out (Sg.pi_false (fun x => by have := x.2.2.1; rw [HD1.out, hps] at this; cases this)))
      obtain ⟨p1, p2, p3, p4⟩ := C12.psR_no hps
      rw [p1, p2, p3, p4]
      clear hps
      have bkV := bk3.alloc (.cells #[.int .i64 0, .int .i64 0, .int .i64 0] 23)
      have belV := bel3.alloc bel3.size (.cells #[.int .i64 0, .int .i64 0, .int .i64 0] 23)
      generalize hV : w3.alloc (.cells #[.int .i64 0, .int .i64 0, .int .i64 0] 23) = V at *
      obtain ⟨z0, z1, z2, z3, z4, z5⟩ := ini_cells bkV
      obtain ⟨f0, f1, f2, f3, f4, f5⟩ := ini_frozen bkV
      have bz := six_blk bkV (.string ⟨#[]⟩) (.int .i64 0) (.int .i64 0) (.int .i64 0) (.int .i64 0) (.int .i64 0)
      have bez := six_below belV (Nat.le_refl _) (.string ⟨#[]⟩) (.int .i64 0) (.int .i64 0) (.int .i64 0) (.int .i64 0) (.int .i64 0)
      unfold six at bz bez
      obtain ⟨y0, y1, y2, y3, y4, y5⟩ := ini_cells bz
      clear bz
      subst hV
      go_wp2
      refine bodyPost_ret (v := .tuple #[iniV zini, .int .i64 171]) (by simp [results, Try.results20, go_sem, y0, y1, y2, y3, y4, y5]) rfl ?_
      rw [HB.out.1, HB.out.2]
      exact ⟨rfl, bez⟩
    · have HPC := hide (pi_cand HE.out (by rw [HD0.out, ← HL0.out]; omega) (by rw [HD1.out]; exact hps))
      have HRE := hide (C12.psR_yes hps).2.2.2
      have HCI : Hid (Sg.candI b = ⟨str (d0.take m), C12.psRW d1, C12.psRH d1, C12.psRG d1, (Bx.of4 (d0.drop m) : Int), (Bx.of4 (d0.drop (m + 4)) : Int)⟩) := by
        unfold Sg.candI
        rw [HD0.out, HD1.out, ← HL0.out, show m + 8 - 8 = m by omega]
        exact rfl
      rw [HRE.out]
      clear hps
      generalize C12.psRW d1 = vW at *
      generalize C12.psRH d1 = vH at *
      generalize C12.psRG d1 = vG at *
      have bkS := Blk.new w3 23 #[.int .i64 vW, .int .i64 vH, .int .i64 vG]
      have bkR := bk3.alloc (.cells #[.int .i64 vW, .int .i64 vH, .int .i64 vG] 23)
      have belS := bel3.alloc bel3.size (.cells #[.int .i64 vW, .int .i64 vH, .int .i64 vG] 23)
      have oS := o3.alloc (.cells #[.int .i64 vW, .int .i64 vH, .int .i64 vG] 23)
      have hgW := bk3.lt
      have iw4 : IntKind.i64.wrap ((m : Int) + 4) = (m : Int) + 4 := by rw [IntKind.wrap_i64]; omega
      have hs1 : ∀ w', Sem.run Try.prog (Instr.sliceAt 31 (.slice A0 (m + 8) k0) none (some (.int .i64 (m : Int))) none) w' = .ok (.slice A0 m k0) w' := fun w' => run_cut8h bytesT A0 (m + 8) k0 .i64 m (m : Int) rfl (by omega) w'
      have hs2 : ∀ w', Sem.run Try.prog (Instr.sliceAt 31 (.slice A0 (m + 8) k0) (some (.int .i64 (m : Int))) none none) w' = .ok (.slice (cutA A0 k0 m) 8 (k0 - m)) w' := fun w' => by
        have := run_cut8l (P := Try.prog) bytesT A0 (m + 8) k0 .i64 m (m : Int) rfl (by omega) w'
        rw [show m + 8 - m = 8 by omega] at this
        exact this
      have hs3 : ∀ w', Sem.run Try.prog (Instr.sliceAt 31 (.slice A0 (m + 8) k0) (some (.int .i64 ((m : Int) + 4))) none none) w' = .ok (.slice (cutA A0 k0 (m + 4)) 4 (k0 - (m + 4))) w' := fun w' => by
        have := run_cut8l (P := Try.prog) bytesT A0 (m + 8) k0 .i64 (m + 4) ((m : Int) + 4) (by omega) (by omega) w'
        rw [show m + 8 - (m + 4) = 4 by omega] at this
        exact this
      go_wp2_with fail
      generalize hWW : w3.alloc (.cells #[.int .i64 vW, .int .i64 vH, .int .i64 vG] 23) = W at *
      have HBy := hide oS.byt
      have HLd : Hid (d0.length ≤ k0) := by rw [← HL0.out]; exact hcap
      have cv : ∀ w', Below W.heap.size W w' → Sem.run Try.prog (convert 31 9 (.slice A0 m k0)) w' = .ok (.string (str (d0.take m))) w' := fun w' h => run_conv8 bytesT Try.underlying9 A0 m k0 _ ((HBy.out.below h).take m) (by rw [List.length_take, ← HL0.out]; omega)
      have HN1 : Hid (∀ w', Below W.heap.size W w' → Calls Try.prog 36 #[.slice (cutA A0 k0 m) 8 (k0 - m)] w' fun e w'' => e = .returned (.int .i64 (Bx.of4 (d0.drop m) : Int)) ∧ Below w'.heap.size w' w'') := fun w' h => number_calls _ 8 _ _ w' (by rw [List.length_drop, ← HL0.out]; omega) (by decide) (by decide) ((HBy.out.below h).cut m HLd.out)
      have HN2 : Hid (∀ w', Below W.heap.size W w' → Calls Try.prog 36 #[.slice (cutA A0 k0 (m + 4)) 4 (k0 - (m + 4))] w' fun e w'' => e = .returned (.int .i64 (Bx.of4 (d0.drop (m + 4)) : Int)) ∧ Below w'.heap.size w' w'') := fun w' h => number_calls _ 4 _ _ w' (by rw [List.length_drop, ← HL0.out]; omega) (by decide) (by decide) ((HBy.out.below h).cut (m + 4) HLd.out)
      have HT8 : Hid ((str (d0.take m)).size ≤ 9223372036854775807) := by
        have : (str (d0.take m)).size = (d0.take m).length := rfl
        rw [this, List.length_take]
        exact (by omega : min m d0.length ≤ 9223372036854775807)
      generalize str (d0.take m) = T at *
      generalize Bx.of4 (d0.drop m) = vS at *
      generalize Bx.of4 (d0.drop (m + 4)) = vT at *
      generalize cutA A0 k0 m = Am at *
      generalize cutA A0 k0 (m + 4) = Am4 at *
      generalize k0 - m = km at *
      generalize k0 - (m + 4) = km4 at *
      generalize w3.heap.size = gs at *
      have HKS : Hid (∀ w', Below W.heap.size W w' → Below W.heap.size W w' ∧ w'.cell? ⟨gs, 0, none⟩ = some (.int .i64 vW) ∧ w'.cell? ⟨gs, 1, none⟩ = some (.int .i64 vH) ∧ w'.cell? ⟨gs, 2, none⟩ = some (.int .i64 vG)) := fun w' h => ⟨h, med_cells (bkS.below h bkS.lt)⟩
      have e0 : Below W.heap.size W W.drew := (Below.refl _ _).drew
      have ea : Below W.heap.size W (W.alloc (.cells #[.string ⟨#[]⟩, .int .i64 0, .int .i64 0, .int .i64 0, .int .i64 0, .int .i64 0] 25)).drew := ((Below.refl _ _).alloc (Nat.le_refl _) _).drew
      have bka : Blk (W.alloc (.cells #[.string ⟨#[]⟩, .int .i64 0, .int .i64 0, .int .i64 0, .int .i64 0, .int .i64 0] 25)).drew W.heap.size 25 #[.string ⟨#[]⟩, .int .i64 0, .int .i64 0, .int .i64 0, .int .i64 0, .int .i64 0] := Blk.new W _ _
      clear oS hWW HL0 HLd HBy o3 b3 bk3 bel3 hcap
      have k0' := HKS.out _ e0
      have ka' := HKS.out _ ea
      rw [HCI.out] at HPC
      go_region_held3 (fun w' => Below W.heap.size W w' ∧ w'.cell? ⟨gs, 0, none⟩ = some (.int .i64 vW) ∧ w'.cell? ⟨gs, 1, none⟩ = some (.int .i64 vH) ∧ w'.cell? ⟨gs, 2, none⟩ = some (.int .i64 vG))
        (first | with_reducible exact k0' | with_reducible exact ka' | with_reducible exact k1 | with_reducible exact k1a | with_reducible exact k2 | with_reducible exact k2a | with_reducible exact kV | (trace "KEEP"; trace_state; fail))
        (first
          | (go_at_call 36; ((with_reducible refine (HN1.out W.drew e0).mono ?_)); rintro e v1 ⟨rfl, f1⟩; have e1 : Below W.heap.size W v1 := bnext e0 f1; have k1 := HKS.out _ e1; have e1a : Below W.heap.size W (v1.alloc (.cells #[.string ⟨#[]⟩, .int .i64 0, .int .i64 0, .int .i64 0, .int .i64 0, .int .i64 0] 25)) := e1.alloc e1.size _; have k1a := HKS.out _ e1a; have bk1a := Blk.new v1 25 #[.string ⟨#[]⟩, .int .i64 0, .int .i64 0, .int .i64 0, .int .i64 0, .int .i64 0])
          | (go_at_call 36; ((with_reducible refine (HN1.out (W.alloc (.cells #[.string ⟨#[]⟩, .int .i64 0, .int .i64 0, .int .i64 0, .int .i64 0, .int .i64 0] 25)).drew ea).mono ?_)); rintro e u1 ⟨rfl, f1⟩; have e1 : Below W.heap.size W u1 := bnext ea f1; have k1 := HKS.out _ e1; have bk1 := bka.below f1 bka.lt)
          | (go_at_call 36; ((with_reducible refine (HN2.out v1 e1).mono ?_)); rintro e v2 ⟨rfl, f2⟩; have e2 : Below W.heap.size W v2 := bnext e1 f2; have k2 := HKS.out _ e2; have e2a : Below W.heap.size W (v2.alloc (.cells #[.string ⟨#[]⟩, .int .i64 0, .int .i64 0, .int .i64 0, .int .i64 0, .int .i64 0] 25)) := e2.alloc e2.size _; have k2a := HKS.out _ e2a; have eV : Below W.heap.size W (v2.alloc (.cells #[.string T, .int .i64 vW, .int .i64 vH, .int .i64 vG, .int .i64 (vS : Int), .int .i64 (vT : Int)] 25)) := e2.alloc e2.size _; have kV := HKS.out _ eV; have bkV := Blk.new v2 25 #[.string T, .int .i64 vW, .int .i64 vH, .int .i64 vG, .int .i64 (vS : Int), .int .i64 (vT : Int)])
          | (go_at_call 36; ((with_reducible refine (HN2.out (v1.alloc (.cells #[.string ⟨#[]⟩, .int .i64 0, .int .i64 0, .int .i64 0, .int .i64 0, .int .i64 0] 25)) e1a).mono ?_)); rintro e u2 ⟨rfl, f2⟩; have e2 : Below W.heap.size W u2 := bnext e1a f2; have k2 := HKS.out _ e2; have bk2a := bk1a.below f2 bk1a.lt; obtain ⟨m0, m1, m2, m3, m4, m5⟩ := ini_cells bk2a; obtain ⟨r0, r1, r2, r3, r4, r5⟩ := ini_frozen bk2a; have eV := six_below e2 e1.size (.string T) (.int .i64 vW) (.int .i64 vH) (.int .i64 vG) (.int .i64 (vS : Int)) (.int .i64 (vT : Int)); have bkV := six_blk bk2a (.string T) (.int .i64 vW) (.int .i64 vH) (.int .i64 vG) (.int .i64 (vS : Int)) (.int .i64 (vT : Int)); unfold six at eV bkV; have kV := HKS.out _ eV)
          | (go_at_call 36; ((with_reducible refine (HN2.out u1 e1).mono ?_)); rintro e u2 ⟨rfl, f2⟩; have e2 : Below W.heap.size W u2 := bnext e1 f2; have k2 := HKS.out _ e2; have bk2a := bk1.below f2 bk1.lt; obtain ⟨m0, m1, m2, m3, m4, m5⟩ := ini_cells bk2a; obtain ⟨r0, r1, r2, r3, r4, r5⟩ := ini_frozen bk2a; have eV := six_below e2 (Nat.le_refl _) (.string T) (.int .i64 vW) (.int .i64 vH) (.int .i64 vG) (.int .i64 (vS : Int)) (.int .i64 (vT : Int)); have bkV := six_blk bk2a (.string T) (.int .i64 vW) (.int .i64 vH) (.int .i64 vG) (.int .i64 (vS : Int)) (.int .i64 (vT : Int)); unfold six at eV bkV; have kV := HKS.out _ eV))
      all_goals
        have gW2 : W.heap.size ≤ W.heap.size := Nat.le_refl _
        first
          | (have gY : W.heap.size ≤ v2.heap.size := e2.size
             generalize v2.alloc (.cells #[.string T, .int .i64 vW, .int .i64 vH, .int .i64 vG, .int .i64 (vS : Int), .int .i64 (vT : Int)] 25) = V at *
             obtain ⟨gy, hgy⟩ : ∃ g, g = v2.heap.size := ⟨_, rfl⟩
             rw [← hgy] at bkV gY ⊢
             clear hgy)
          | (have gY : W.heap.size ≤ v1.heap.size := e1.size
             generalize (((((u2.setCell ⟨v1.heap.size, 0, none⟩ (.string T)).setCell ⟨v1.heap.size, 1, none⟩ (.int .i64 vW)).setCell ⟨v1.heap.size, 2, none⟩ (.int .i64 vH)).setCell ⟨v1.heap.size, 3, none⟩ (.int .i64 vG)).setCell ⟨v1.heap.size, 4, none⟩ (.int .i64 (vS : Int))).setCell ⟨v1.heap.size, 5, none⟩ (.int .i64 (vT : Int)) = V at *
             obtain ⟨gy, hgy⟩ : ∃ g, g = v1.heap.size := ⟨_, rfl⟩
             rw [← hgy] at bkV gY ⊢
             clear hgy)
          | (have gY : W.heap.size ≤ W.heap.size := Nat.le_refl _
             generalize (((((u2.setCell ⟨W.heap.size, 0, none⟩ (.string T)).setCell ⟨W.heap.size, 1, none⟩ (.int .i64 vW)).setCell ⟨W.heap.size, 2, none⟩ (.int .i64 vH)).setCell ⟨W.heap.size, 3, none⟩ (.int .i64 vG)).setCell ⟨W.heap.size, 4, none⟩ (.int .i64 (vS : Int))).setCell ⟨W.heap.size, 5, none⟩ (.int .i64 (vT : Int)) = V at *
             obtain ⟨gy, hgy⟩ : ∃ g, g = W.heap.size := ⟨_, rfl⟩
             have gY : W.heap.size ≤ gy := Nat.le_of_eq hgy.symm
             rw [← hgy] at bkV ⊢
             clear hgy)
        have bkRV := bkR.below eV bkR.lt
        have hne : w.heap.size ≠ gy := by have := bkR.lt; omega
        have belV := belS.trans (eV.mono belS.size)
        clear kV k0' ka' hs1 hs2 hs3 cv HN1 HN2 HKS
        try clear k2a
        try clear k1a
        clear k2 k1
        obtain ⟨i0, i1, i2, i3, i4, i5⟩ := ini_cells bkV
        go_wp2_with fail
        refine (writeI_calls ⟨T, vW, vH, vG, (vS : Int), (vT : Int)⟩ V HT8.out).mono ?_
        rintro e w7 ⟨A7, n7, c7, rfl, o7, g7, b7⟩
        have bkV7 := bkV.below b7 bkV.lt
        have bkR7 := bkRV.below b7 bkRV.lt
        have bel7 := bnext belV b7
        clear i0 i1 i2 i3 i4 i5
        obtain ⟨z0, z1, z2, z3, z4, z5⟩ := ini_cells bkR7
        obtain ⟨f0, f1, f2, f3, f4, f5⟩ := ini_frozen bkR7
        cases hri : Sg.rightI ⟨T, vW, vH, vG, (vS : Int), (vT : Int)⟩
        · have HB := hide (pi_bad HE.out (HPC.out.1.trans hri))
          rw [(Sg.wi_no hri).2]
          have bz := six_blk bkR7 (.string ⟨#[]⟩) (.int .i64 0) (.int .i64 0) (.int .i64 0) (.int .i64 0) (.int .i64 0)
          have bez := six_below bel7 (Nat.le_refl _) (.string ⟨#[]⟩) (.int .i64 0) (.int .i64 0) (.int .i64 0) (.int .i64 0) (.int .i64 0)
          unfold six at bz bez
          obtain ⟨y0, y1, y2, y3, y4, y5⟩ := ini_cells bz
          clear bz hri
          go_wp2
          refine bodyPost_ret (v := .tuple #[iniV zini, .int .i64 171]) (by simp [results, Try.results20, go_sem, y0, y1, y2, y3, y4, y5]) rfl ?_
          rw [HB.out.1, HB.out.2]
          exact ⟨rfl, bez⟩
        · have HB := hide (Sg.pi_yes (HPC.out.1.trans hri))
          rw [HCI.out] at HB
          rw [(Sg.wi_yes hri).2]
          have HLB := hide (HPC.out.2 hri)
          rw [HLB.out] at o7
          clear hri
          have bz := six_blk bkR7 (.string T) (.int .i64 vW) (.int .i64 vH) (.int .i64 vG) (.int .i64 (vS : Int)) (.int .i64 (vT : Int))
          have bez := six_below bel7 (Nat.le_refl _) (.string T) (.int .i64 vW) (.int .i64 vH) (.int .i64 vG) (.int .i64 (vS : Int)) (.int .i64 (vT : Int))
          unfold six at bz bez
          obtain ⟨y0, y1, y2, y3, y4, y5⟩ := ini_cells bz
          obtain ⟨x0, x1, x2, x3, x4, x5⟩ := ini_cells bkV7
          have HEq := hide (bytesEqual_calls A7 A n7 c7 n c b b w7 o7.1 HN.out o7.byt (HA.out.below bel7))
          rw [decide_eq_true rfl] at HEq
          clear bz
          go_wp2_with fail
          refine HEq.out.mono ?_
          rintro e w8 ⟨rfl, rfl⟩
          go_wp2
          refine bodyPost_ret (v := .tuple #[iniV ⟨T, vW, vH, vG, (vS : Int), (vT : Int)⟩, .int .i64 0]) (by simp [results, Try.results20, go_sem, y0, y1, y2, y3, y4, y5]) rfl ?_
          rw [HB.out.1, HB.out.2]
          exact ⟨rfl, bez⟩
end Go.Proofs.Ytakglalebjkpeaa.C17
