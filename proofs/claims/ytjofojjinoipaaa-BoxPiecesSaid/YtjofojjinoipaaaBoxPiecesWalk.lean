/- The statement BoxPieces, walked: it returns true and changes nothing that was there. Conditions: the slices read as boxes. -/
import Derived.Test.YtjofojjinoipaaaBoxTwo
namespace Go.Proofs.Ytjofojjinoipaaa
open Go.RowKit Kin

theorem str_size (a : List UInt8) : (str a).size = a.length := rfl
theorem str_app (a b : List UInt8) : str a ++ str b = str (a ++ b) := by
  apply ByteArray.ext
  simp [str, ByteArray.data_append]
theorem rows_len (xs : List Bx.Cel) : ∀ r ∈ xs.map Bx.Cel.row, r.length = 2 := by
  intro r hr
  obtain ⟨x, _, rfl⟩ := List.mem_map.1 hr
  rfl
theorem rows_one (xs : List Bx.Cel) : ∀ r ∈ xs.map Bx.Cel.row, ∀ u ∈ r, u.oneCell' = true := by
  intro r hr
  obtain ⟨x, _, rfl⟩ := List.mem_map.1 hr
  simp [Bx.Cel.row, Value.oneCell']
theorem boxes_nxt {w W W' : World} {A A' : Option Addr} (bel : Below w.heap.size w W) (gA : ∀ k, blkOf A = some k → w.heap.size ≤ k) (grow : W.grownBy W' (blkOf A)) (at1 : blkOf A' = blkOf A ∨ blkOf A' = some W.heap.size) :
    Below w.heap.size w W' ∧ (∀ k, blkOf A' = some k → w.heap.size ≤ k) := by
  refine ⟨bel.grown grow bel.size gA, fun k hk => ?_⟩
  rcases at1 with e | e
  · exact gA k (by rw [← e]; exact hk)
  · rw [hk] at e; injection e with e; rw [e]; exact bel.size
theorem all_app (a b : List Bx.Box) : (a ++ b).all Bx.rightB = (a.all Bx.rightB && b.all Bx.rightB) := List.all_append ..
theorem wr_all (L : List Bx.Box) : wrE L = if L.all Bx.rightB = true then 0 else 161 := rfl
theorem len_wr {L : List Bx.Box} (h : Bx.sizes L ≤ 100000) : (wrL L).length ≤ 100000 := by
  unfold wrL
  split
  · rename_i hr; rw [Bx.length_file L hr]; exact h
  · simp

set_option maxRecDepth 100000 in
set_option maxHeartbeats 4000000 in
theorem boxPieces_bad (A : Option Addr) (n c : Nat) (xs : List Bx.Cel) (A' : Option Addr) (n' c' : Nat) (ys : List Bx.Cel) (kind : ByteArray) (w : World) (hn : n = xs.length) (hm : n ≤ maxLen) (hA : Bx.Boxes w w.heap.size A xs) (hn' : n' = ys.length) (hm' : n' ≤ maxLen) (hA' : Bx.Boxes w w.heap.size A' ys) (h : Bx.fits xs = false ∨ Bx.fits ys = false ∨ 1000 < kind.size) :
    Calls Try.prog 5 #[.slice A n c, .slice A' n' c', .string kind] w fun e w' => e = .returned (.bool true) ∧ Below w.heap.size w w' := by
  unfold maxLen at hm hm'
  have hF := fits_calls A n c xs w hn hm hA
  have hF' := fits_calls A' n' c' ys w hn' hm' hA'
  have hal := alive16_calls w
  clear hn hn' hA hA'
  generalize Bx.fits xs = p at *
  generalize Bx.fits ys = q at *
  cases p
  case' true => cases q
  case' true.true => have h5 : (1000 : Int) < (kind.size : Int) := by rcases h with h | h | h; · cases h
                                                                      · cases h
                                                                      · omega
  all_goals
    clear h
    go_enter Try.func5, Try.ntmps5
    go_wp2_with fail
    refine hF.mono ?_
    rintro e w0 ⟨rfl, rfl⟩
    go_wp2_with fail
    refine hF'.mono ?_
    rintro e w0 ⟨rfl, rfl⟩
    go_wp2_with fail
    refine hal.mono ?_
    rintro e w1 ⟨rfl, b1⟩
    go_wp2
    go_ret
    exact ⟨rfl, b1⟩

set_option maxRecDepth 100000 in
set_option maxHeartbeats 8000000 in
theorem boxPieces_good (A : Option Addr) (n c : Nat) (xs : List Bx.Cel) (A' : Option Addr) (n' c' : Nat) (ys : List Bx.Cel) (kind : ByteArray) (w : World) (hn : n = xs.length) (hA : Bx.Boxes w w.heap.size A xs) (hn' : n' = ys.length) (hA' : Bx.Boxes w w.heap.size A' ys) (hf : Bx.fits xs = true) (hf' : Bx.fits ys = true) (hk : kind.size ≤ 1000) :
    Calls Try.prog 5 #[.slice A n c, .slice A' n' c', .string kind] w fun e w' => e = .returned (.bool true) ∧ Below w.heap.size w w' := by
  obtain ⟨f1, f2, f3⟩ := fits_sizes hf hA
  obtain ⟨f1', f2', f3'⟩ := fits_sizes hf' hA'
  have HN := hide hn
  have HN' := hide hn'
  have hn20 : n ≤ 20 := by rw [hn]; exact f1
  have hn20' : n' ≤ 20 := by rw [hn']; exact f1'
  have hF := fits_calls A n c xs w hn (by omega) hA
  have hF' := fits_calls A' n' c' ys w hn' (by omega) hA'
  rw [hf] at hF
  rw [hf'] at hF'
  have d2 : decide ((1000 : Int) < (kind.size : Int)) = false := by simp; omega
  have hsz : Bx.sizes (Bx.boxs (xs ++ ys)) ≤ 40320 := by rw [Bx.boxs_append, Bx.sizes_append]; omega
  have HW1 : Hid (∀ w', Below w.heap.size w w' → Calls Try.prog 9 #[.slice A n c] w' (RetBE w' (wrL (Bx.boxs xs)) (wrE (Bx.boxs xs)))) := fun w' h => write_calls A n c xs w' hn (by omega) ((hA.below h).more h.size) (by omega)
  have HW2 : Hid (∀ w', Below w.heap.size w w' → Calls Try.prog 9 #[.slice A' n' c'] w' (RetBE w' (wrL (Bx.boxs ys)) (wrE (Bx.boxs ys)))) := fun w' h => write_calls A' n' c' ys w' hn' (by omega) ((hA'.below h).more h.size) (by omega)
  have HFi1 : Hid (∀ w', Below w.heap.size w w' → Calls Try.prog 13 #[.slice A n c, .string kind] w' (RetFind w' (Bx.boxs xs) kind)) := fun w' h => find_calls A n c xs kind w' hn (by omega) ((hA.below h).more h.size) (fun x hx => by have := (f2 x hx).1; omega)
  have HFi2 : Hid (∀ w', Below w.heap.size w w' → Calls Try.prog 13 #[.slice A' n' c', .string kind] w' (RetFind w' (Bx.boxs ys) kind)) := fun w' h => find_calls A' n' c' ys kind w' hn' (by omega) ((hA'.below h).more h.size) (fun x hx => by have := (f2' x hx).1; omega)
  have HOK : Hid (∀ x ∈ xs ++ ys, x.n ≤ 1000 ∧ x.ok w w.heap.size) := fun x hx => by
    rcases List.mem_append.1 hx with h | h
    · exact ⟨(f2 x h).1, hA.2 x h⟩
    · exact ⟨(f2' x h).1, hA'.2 x h⟩
  have HRa := hide hA.1
  have HRb := hide hA'.1
  have hl1 := hide (len_wr (L := Bx.boxs xs) (by omega))
  have hl2 := hide (len_wr (L := Bx.boxs ys) (by omega))
  clear hn hn' hA hA' f1 f2 f3 f1' f2' f3' hf hf'
  go_enter Try.func5, Try.ntmps5
  go_wp2_with fail
  refine hF.mono ?_
  rintro e w0 ⟨rfl, rfl⟩
  go_wp2_with fail
  refine hF'.mono ?_
  rintro e w0 ⟨rfl, rfl⟩
  clear hF hF'
  have bE : Below w.heap.size w (w.alloc (.cells #[] 36)) := (Below.refl _ _).alloc (Nat.le_refl _) _
  have oE := OwnR.new0 w #[] 36 2 0 rfl (by decide)
  go_wp2_with (first
    | (at_builtin; refine wpList_appendR (by rfl) (.tmp 38) (.tmp 39) 22 36 2 40 (by rfl) boxesT _ _ _ _ (by rfl) oE _ _ _ _ (xs.map Bx.Cel.row) (by rfl) (HRa.out.below bE) (by rw [List.length_map]; exact HN.out) (rows_len xs) (rows_one xs) (by omega) (by unfold maxLen; omega) ?_; intro A1 c1 w1 own1 grow1 at1; have F1 := boxes_nxt bE (by intro k hk; simp [blkOf] at hk; omega) grow1 at1; simp only [Nat.zero_add, List.nil_append] at own1)
    | (at_builtin; refine wpList_appendR (by rfl) (.tmp 40) (.tmp 41) 22 36 2 40 (by rfl) boxesT _ _ _ _ (by rfl) own1 _ _ _ _ (ys.map Bx.Cel.row) (by rfl) (HRb.out.below F1.1) (by rw [List.length_map]; exact HN'.out) (rows_len ys) (rows_one ys) (by omega) (by unfold maxLen; omega) ?_; intro A2 c2 w2 own2 grow2 at2; have F2 := boxes_nxt F1.1 F1.2 grow2 at2))
  obtain ⟨bel2, _⟩ := F2
  have hnn : n + n' = (xs ++ ys).length := by rw [List.length_append, HN.out, HN'.out]
  have HNN := hide hnn
  have hbo : Bx.Boxes w2 w2.heap.size A2 (xs ++ ys) := by
    refine ⟨by rw [List.map_append]; exact own2.recs, fun x hx => ?_⟩
    exact ((HOK.out x hx).2.below bel2).more bel2.size
  have HWb : Hid (∀ w', Below w2.heap.size w2 w' → Calls Try.prog 9 #[.slice A2 (n + n') c2] w' (RetBE w' (wrL (Bx.boxs (xs ++ ys))) (wrE (Bx.boxs (xs ++ ys))))) := fun w' h => write_calls A2 (n + n') c2 _ w' HNN.out (by omega) ((hbo.below h).more h.size) (by omega)
  have HFb : Hid (∀ w', Below w2.heap.size w2 w' → Calls Try.prog 13 #[.slice A2 (n + n') c2, .string kind] w' (RetFind w' (Bx.boxs (xs ++ ys)) kind)) := fun w' h => find_calls A2 (n + n') c2 _ kind w' HNN.out (by omega) ((hbo.below h).more h.size) (fun x hx => by have := (HOK.out x hx).1; omega)
  rw [Bx.boxs_append] at HWb HFb
  clear hbo own2 own1 grow1 grow2 at1 at2 F1 oE bE HOK HRa HRb hnn d2 hsz
  generalize Bx.boxs xs = L at *
  generalize Bx.boxs ys = L' at *
  go_wp2_with fail
  refine (HW1.out _ bel2).mono ?_
  rintro e w3 ⟨A3, n3, c3, rfl, o3, g3, b3⟩
  have bel3 := bnext bel2 b3
  have f3 : Below w2.heap.size w2 w3 := b3
  clear HW1 g3 b3
  go_wp2_with fail
  refine (HW2.out _ bel3).mono ?_
  rintro e w4 ⟨A4, n4, c4, rfl, o4, g4, b4⟩
  have o34 := o3.below b4 o3.lt
  have bel4 := bnext bel3 b4
  have f4 := bnext f3 b4
  clear HW2 g4 b4 o3 bel3 f3
  go_wp2_with fail
  refine (HWb.out _ f4).mono ?_
  rintro e w5 ⟨A5, n5, c5, rfl, o5, g5, b5⟩
  have o35 := o34.below b5 o34.lt
  have o45 := o4.below b5 o4.lt
  have bel5 := bnext bel4 b5
  have f5 := bnext f4 b5
  clear HWb g5 b5 o34 o4 bel4 f4
  have HCAT : Hid (L.all Bx.rightB = true → L'.all Bx.rightB = true → str (wrL L) ++ str (wrL L') = str (wrL (L ++ L'))) := fun h1 h2 => by
    rw [str_app, (wr_yes h1).1, (wr_yes h2).1, (wr_yes (L := L ++ L') (by rw [all_app, h1, h2]; rfl)).1, Bx.file_append]
  have hsz : (str (wrL L)).size + (str (wrL L')).size ≤ 9223372036854775807 := by rw [str_size, str_size]; have := hl1.out; have := hl2.out; omega
  have HA3 := hide (all_app L L')
  have HE1 := hide (wr_all L)
  have HE2 := hide (wr_all L')
  have HE3 := hide (wr_all (L ++ L'))
  have HFA := hide (Bx.find_append L L' kind)
  have cvx : ∀ w', Below w5.heap.size w5 w' → Sem.run Try.prog (convert 23 9 (.slice A3 n3 c3)) w' = .ok (.string (str (wrL L))) w' := fun w' h => run_conv8 bytesT Try.underlying9 A3 n3 c3 _ (o35.byt.below h) o35.1
  have cvy : ∀ w', Below w5.heap.size w5 w' → Sem.run Try.prog (convert 23 9 (.slice A4 n4 c4)) w' = .ok (.string (str (wrL L'))) w' := fun w' h => run_conv8 bytesT Try.underlying9 A4 n4 c4 _ (o45.byt.below h) o45.1
  have cvz : ∀ w', Below w5.heap.size w5 w' → Sem.run Try.prog (convert 23 9 (.slice A5 n5 c5)) w' = .ok (.string (str (wrL (L ++ L')))) w' := fun w' h => run_conv8 bytesT Try.underlying9 A5 n5 c5 _ (o5.byt.below h) o5.1
  have HX := hide cvx
  have HYv := hide cvy
  have HZv := hide cvz
  clear cvx cvy cvz o35 o45 o5 hl1 hl2
  generalize wrL L = W1 at *
  generalize wrL L' = W2 at *
  generalize wrL (L ++ L') = W3 at *
  generalize str W1 = S1 at *
  generalize str W2 = S2 at *
  generalize str W3 = S3 at *
  rw [HA3.out] at HE3
  generalize hp : L.all Bx.rightB = p at *
  generalize hq : L'.all Bx.rightB = q at *
  generalize wrE L = E1 at *
  generalize wrE L' = E2 at *
  generalize wrE (L ++ L') = E3 at *
  clear hp hq HA3
  obtain ⟨D1, hD1⟩ : ∃ D, Bx.find L kind = D := ⟨_, rfl⟩
  obtain ⟨D2, hD2⟩ : ∃ D, Bx.find L' kind = D := ⟨_, rfl⟩
  rw [hD1, hD2] at HFA
  unfold RetFind at HFi1 HFi2 HFb
  rw [HFA.out] at HFb
  rw [hD1] at HFi1
  rw [hD2] at HFi2
  clear hD1 hD2 HFA
  obtain ⟨T1, B1⟩ := D1
  obtain ⟨T2, B2⟩ := D2
  dsimp only at HFi1 HFi2 HFb
  cases p
  case' false =>
    obtain rfl : E1 = 161 := HE1.out
    obtain rfl : E3 = 161 := HE3.out
    clear HE1 HE2 HE3 HCAT
  case' true => cases q
  case' true.false =>
    obtain rfl : E1 = 0 := HE1.out
    obtain rfl : E2 = 161 := HE2.out
    obtain rfl : E3 = 161 := HE3.out
    clear HE1 HE2 HE3 HCAT
  case' true.true =>
    obtain rfl : E1 = 0 := HE1.out
    obtain rfl : E2 = 0 := HE2.out
    obtain rfl : E3 = 0 := HE3.out
    have hcat := HCAT.out rfl rfl
    clear HE1 HE2 HE3 HCAT
  all_goals
    go_wp2_with fail
    refine (HFi1.out _ bel5).mono ?_
    rintro e w6 ⟨A6, n6, c6, rfl, hn6, y6, b6⟩
    have HN6 := hide hn6
    have bel6 := bnext bel5 b6
    have f6 := bnext f5 b6
    clear hn6
    go_wp2_with fail
    refine (HFi2.out _ bel6).mono ?_
    rintro e w7 ⟨A7, n7, c7, rfl, hn7, y7, b7⟩
    have HN7 := hide hn7
    have bel7 := bnext bel6 b7
    have f7 := bnext f6 b7
    have g7 := bnext b6 b7
    have y67 := (y6.below b7).more b7.size
    clear hn7 y6
    go_wp2_with fail
    refine (HFb.out _ f7).mono ?_
    rintro e w8 ⟨A8, n8, c8, rfl, hn8, y8, b8⟩
    have HN8 := hide hn8
    have bel8 := bnext bel7 b8
    have g8 := bnext g7 b8
    have y68 := (y67.below b8).more b8.size
    have y78 := (y7.below b8).more b8.size
    clear hn8 y67 y7 b6 b7 b8 f6 f7 g7 bel6 bel7 f5
    cases B1
    case' false =>
      rw [if_neg (by simp)] at HN8 y8 ⊢
      dsimp only at HN8 y8 ⊢
      go_wp2_with fail
    case' true =>
      rw [if_pos rfl] at HN8 y8 ⊢
      dsimp only at HN8 y8 ⊢
      go_wp2_with fail
    all_goals
      refine (alive16_calls _).mono ?_
      rintro e w9 ⟨rfl, b9⟩
      have g9 := bnext g8 b9
      have cvx := HX.out _ g9
      have cvy := HYv.out _ g9
      have cvz := HZv.out _ g9
      have cv6 : Sem.run Try.prog (convert 23 9 (.slice A6 n6 c6)) w9 = .ok (.string (str T1)) w9 := run_conv8 bytesT Try.underlying9 A6 n6 c6 _ (y68.below b9) HN6.out
      have cv7 : Sem.run Try.prog (convert 23 9 (.slice A7 n7 c7)) w9 = .ok (.string (str T2)) w9 := run_conv8 bytesT Try.underlying9 A7 n7 c7 _ (y78.below b9) HN7.out
      have cv8 := run_conv8 (P := Try.prog) (w := w9) bytesT Try.underlying9 A8 n8 c8 _ (y8.below b9) HN8.out
      have sd : ∀ S : ByteArray, (S.toList == S.toList) = true := fun S => by simp
      have bd : ∀ b : Bool, (b == b) = true := fun b => by simp
      generalize str T1 = ST1 at *
      generalize str T2 = ST2 at *
      clear HN6 HN7 HN8 y68 y78 y8 g8
      go_wp2
      go_ret
      exact ⟨rfl, bnext bel8 b9⟩

theorem boxPieces_walk (A : Option Addr) (n c : Nat) (xs : List Bx.Cel) (A' : Option Addr) (n' c' : Nat) (ys : List Bx.Cel) (kind : ByteArray) (w : World) (hn : n = xs.length) (hm : n ≤ maxLen) (hA : Bx.Boxes w w.heap.size A xs) (_ : ∀ x ∈ xs, x.t.size ≤ maxLen) (hn' : n' = ys.length) (hm' : n' ≤ maxLen) (hA' : Bx.Boxes w w.heap.size A' ys) (_ : ∀ x ∈ ys, x.t.size ≤ maxLen) (_ : kind.size ≤ maxLen) :
    Calls Try.prog 5 #[.slice A n c, .slice A' n' c', .string kind] w fun e w' => e = .returned (.bool true) ∧ Below w.heap.size w w' := by
  cases hf : Bx.fits xs
  · exact boxPieces_bad A n c xs A' n' c' ys kind w hn hm hA hn' hm' hA' (.inl hf)
  · cases hf' : Bx.fits ys
    · exact boxPieces_bad A n c xs A' n' c' ys kind w hn hm hA hn' hm' hA' (.inr (.inl hf'))
    · by_cases h2 : 1000 < kind.size
      · exact boxPieces_bad A n c xs A' n' c' ys kind w hn hm hA hn' hm' hA' (.inr (.inr h2))
      · exact boxPieces_good A n c xs A' n' c' ys kind w hn hA hn' hA' hf hf' (by omega)
end Go.Proofs.Ytjofojjinoipaaa
