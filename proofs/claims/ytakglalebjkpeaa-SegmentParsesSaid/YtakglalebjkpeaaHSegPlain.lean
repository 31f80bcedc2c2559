/- Segments in plain words: which inits and media are right, their files, and what bytes are taken for. No conditions. -/
import Derived.Test.YtakglalebjkpeaaHPlain
import Derived.Test.YtakglalebjkpeaaHSyn
namespace Sg
open Go Kin Go.Proofs.Ytakglalebjkpeaa.C12

def kHead : ByteArray := ⟨#[104, 101, 97, 100]⟩
def kSequ : ByteArray := ⟨#[115, 101, 113, 117]⟩
def kTabl : ByteArray := ⟨#[116, 97, 98, 108]⟩
def kData : ByteArray := ⟨#[100, 97, 116, 97]⟩
def kSumm : ByteArray := ⟨#[115, 117, 109, 109]⟩
structure Ini where
  nm : ByteArray
  W : Int
  H : Int
  G : Int
  S : Int
  T : Int
structure Med where
  N : Int
  F : Int
  L : List (List UInt8)
def nameOk (s : ByteArray) : Bool := decide (1 ≤ s.size ∧ s.size ≤ 8) && s.data.toList.all Bx.okc
def timeOk (x : Int) : Bool := decide (1 ≤ x ∧ x ≤ 1048576)
def rightI (i : Ini) : Bool := nameOk i.nm && Syn.rightB i.W i.H i.G && timeOk i.S && timeOk i.T
def rightM (m : Med) : Bool := decide (0 ≤ m.N ∧ m.N < 1024 ∧ 0 ≤ m.F ∧ m.F < 1024) && decide (1 ≤ m.L.length ∧ m.L.length ≤ 64) && m.L.all (fun s => decide (1 ≤ s.length)) && decide (m.L.flatten.length ≤ 524288)
def sumB (L : List Bx.Box) : Bx.Box := (kSumm, Bx.four (Crc.sum (Bx.file L)))
def sealB (L : List Bx.Box) : List UInt8 := Bx.file L ++ Bx.file [sumB L]
def boxI (i : Ini) : List Bx.Box := [(kHead, i.nm.data.toList ++ Bx.four i.S.toNat ++ Bx.four i.T.toNat), (kSequ, Syn.seqL i.W i.H i.G)]
def table (L : List (List UInt8)) : List UInt8 := (L.map fun s => Bx.four s.length).flatten
def boxM (m : Med) : List Bx.Box := [(kHead, Bx.four m.N.toNat ++ Bx.four m.F.toNat ++ Bx.four m.L.length), (kTabl, table m.L), (kData, m.L.flatten)]
def fileI (i : Ini) : List UInt8 := sealB (boxI i)
def fileM (m : Med) : List UInt8 := sealB (boxM m)
/- what is written -/
def wiL (i : Ini) : List UInt8 := if rightI i = true then fileI i else []
def wiE (i : Ini) : Int := if rightI i = true then 0 else 171
def wmL (m : Med) : List UInt8 := if rightM m = true then fileM m else []
def wmE (m : Med) : Int := if rightM m = true then 0 else 171
theorem wi_yes {i : Ini} (h : rightI i = true) : wiL i = fileI i ∧ wiE i = 0 := by unfold wiL wiE; rw [if_pos h, if_pos h]; exact ⟨rfl, rfl⟩
theorem wi_no {i : Ini} (h : rightI i = false) : wiL i = [] ∧ wiE i = 171 := by unfold wiL wiE; rw [h, if_neg (by simp), if_neg (by simp)]; exact ⟨rfl, rfl⟩
theorem wm_yes {m : Med} (h : rightM m = true) : wmL m = fileM m ∧ wmE m = 0 := by unfold wmL wmE; rw [if_pos h, if_pos h]; exact ⟨rfl, rfl⟩
theorem wm_no {m : Med} (h : rightM m = false) : wmL m = [] ∧ wmE m = 171 := by unfold wmL wmE; rw [h, if_neg (by simp), if_neg (by simp)]; exact ⟨rfl, rfl⟩

theorem rightI_of {i : Ini} (h : rightI i = true) : (1 ≤ i.nm.size ∧ i.nm.size ≤ 8) ∧ i.nm.data.toList.all Bx.okc = true ∧ Syn.rightB i.W i.H i.G = true ∧ (1 ≤ i.S ∧ i.S ≤ 1048576) ∧ (1 ≤ i.T ∧ i.T ≤ 1048576) := by
  unfold rightI nameOk timeOk at h
  simp only [Bool.and_eq_true, decide_eq_true_eq] at h
  exact ⟨h.1.1.1.1, h.1.1.1.2, h.1.1.2, h.1.2, h.2⟩
theorem rightM_of {m : Med} (h : rightM m = true) : (0 ≤ m.N ∧ m.N < 1024 ∧ 0 ≤ m.F ∧ m.F < 1024) ∧ (1 ≤ m.L.length ∧ m.L.length ≤ 64) ∧ (∀ s ∈ m.L, 1 ≤ s.length) ∧ m.L.flatten.length ≤ 524288 := by
  unfold rightM at h
  simp only [Bool.and_eq_true, decide_eq_true_eq, List.all_eq_true] at h
  exact ⟨h.1.1.1, h.1.1.2, h.1.2, h.2⟩
theorem rightI_true {i : Ini} (h : (1 ≤ i.nm.size ∧ i.nm.size ≤ 8) ∧ i.nm.data.toList.all Bx.okc = true ∧ Syn.rightB i.W i.H i.G = true ∧ (1 ≤ i.S ∧ i.S ≤ 1048576) ∧ (1 ≤ i.T ∧ i.T ≤ 1048576)) : rightI i = true := by
  unfold rightI nameOk timeOk
  simp only [Bool.and_eq_true, decide_eq_true_eq]
  exact ⟨⟨⟨⟨h.1, h.2.1⟩, h.2.2.1⟩, h.2.2.2.1⟩, h.2.2.2.2⟩
theorem rightI_false {i : Ini} (h : ¬ ((1 ≤ i.nm.size ∧ i.nm.size ≤ 8) ∧ i.nm.data.toList.all Bx.okc = true ∧ Syn.rightB i.W i.H i.G = true ∧ (1 ≤ i.S ∧ i.S ≤ 1048576) ∧ (1 ≤ i.T ∧ i.T ≤ 1048576))) : rightI i = false := by
  cases e : rightI i
  · rfl
  · exact absurd (rightI_of e) h
theorem rightM_true {m : Med} (h : (0 ≤ m.N ∧ m.N < 1024 ∧ 0 ≤ m.F ∧ m.F < 1024) ∧ (1 ≤ m.L.length ∧ m.L.length ≤ 64) ∧ (∀ s ∈ m.L, 1 ≤ s.length) ∧ m.L.flatten.length ≤ 524288) : rightM m = true := by
  unfold rightM
  simp only [Bool.and_eq_true, decide_eq_true_eq, List.all_eq_true]
  exact ⟨⟨⟨h.1, h.2.1⟩, h.2.2.1⟩, h.2.2.2⟩
theorem rightM_false {m : Med} (h : ¬ ((0 ≤ m.N ∧ m.N < 1024 ∧ 0 ≤ m.F ∧ m.F < 1024) ∧ (1 ≤ m.L.length ∧ m.L.length ≤ 64) ∧ (∀ s ∈ m.L, 1 ≤ s.length) ∧ m.L.flatten.length ≤ 524288)) : rightM m = false := by
  cases e : rightM m
  · rfl
  · exact absurd (rightM_of e) h

/- boxes of these kinds are right -/
theorem rHead {d : List UInt8} (h : d.length ≤ 1048576) : Bx.rightB (kHead, d) = true := by
  show Bx.right kHead d.length = true
  unfold Bx.right; rw [decide_eq_true h]; decide
theorem rSequ {d : List UInt8} (h : d.length ≤ 1048576) : Bx.rightB (kSequ, d) = true := by
  show Bx.right kSequ d.length = true
  unfold Bx.right; rw [decide_eq_true h]; decide
theorem rTabl {d : List UInt8} (h : d.length ≤ 1048576) : Bx.rightB (kTabl, d) = true := by
  show Bx.right kTabl d.length = true
  unfold Bx.right; rw [decide_eq_true h]; decide
theorem rData {d : List UInt8} (h : d.length ≤ 1048576) : Bx.rightB (kData, d) = true := by
  show Bx.right kData d.length = true
  unfold Bx.right; rw [decide_eq_true h]; decide
theorem rSumm {d : List UInt8} (h : d.length ≤ 1048576) : Bx.rightB (kSumm, d) = true := by
  show Bx.right kSumm d.length = true
  unfold Bx.right; rw [decide_eq_true h]; decide
theorem rSum (L : List Bx.Box) : Bx.rightB (sumB L) = true := rSumm (by rw [Bx.length_four]; omega)
theorem code_len {v : Nat} (h : v ≤ 4294967294) : (Gol.codeB v).length ≤ 63 := by
  rw [Gol.length_codeB h, Gol.gl_of h]
  have := (Gol.bl_code h).2.1
  omega
theorem seq_len (W H G : Int) : (Syn.seqL W H G).length ≤ 100 := by
  unfold Syn.seqL
  split
  · rename_i h
    obtain ⟨a1, a2, a3⟩ := Syn.right_of h
    rw [Bit.length_pack]
    unfold Syn.seqB
    simp only [List.length_append, Bit.length_digits]
    have := code_len (v := (W / 16 - 1).toNat) (by omega)
    have := code_len (v := (H / 16 - 1).toNat) (by omega)
    have := code_len (v := (G - 1).toNat) (by omega)
    omega
  · simp
theorem length_table (L : List (List UInt8)) : (table L).length = 4 * L.length := by
  unfold table
  induction L with
  | nil => rfl
  | cons x L ih => simp only [List.map_cons, List.flatten_cons, List.length_append, Bx.length_four, List.length_cons, ih]; omega
theorem boxI_right {i : Ini} (h : rightI i = true) : (boxI i).all Bx.rightB = true := by
  obtain ⟨⟨_, h1⟩, _⟩ := rightI_of h
  have hl : i.nm.data.toList.length = i.nm.size := rfl
  have e1 : Bx.rightB (kHead, i.nm.data.toList ++ Bx.four i.S.toNat ++ Bx.four i.T.toNat) = true := rHead (by rw [List.length_append, List.length_append, Bx.length_four, Bx.length_four, hl]; omega)
  have e2 : Bx.rightB (kSequ, Syn.seqL i.W i.H i.G) = true := rSequ (by have := seq_len i.W i.H i.G; omega)
  simp only [boxI, List.all_cons, List.all_nil, e1, e2, Bool.and_true]
theorem boxM_right {m : Med} (h : rightM m = true) : (boxM m).all Bx.rightB = true := by
  obtain ⟨_, ⟨_, h2⟩, _, h4⟩ := rightM_of h
  have e1 : Bx.rightB (kHead, Bx.four m.N.toNat ++ Bx.four m.F.toNat ++ Bx.four m.L.length) = true := rHead (by rw [List.length_append, List.length_append, Bx.length_four, Bx.length_four, Bx.length_four]; omega)
  have e2 : Bx.rightB (kTabl, table m.L) = true := rTabl (by rw [length_table]; omega)
  have e3 : Bx.rightB (kData, m.L.flatten) = true := rData (by omega)
  simp only [boxM, List.all_cons, List.all_nil, e1, e2, e3, Bool.and_true]

/- a sealed file -/
theorem seal_file (L : List Bx.Box) : sealB L = Bx.file (L ++ [sumB L]) := by rw [Bx.file_append]; rfl
theorem seal_right {L : List Bx.Box} (h : L.all Bx.rightB = true) : (L ++ [sumB L]).all Bx.rightB = true := by
  rw [List.all_append, h]; simp [rSum]
theorem seal_boxes {L : List Bx.Box} (h : L.all Bx.rightB = true) : Bx.boxes (sealB L) = L ++ [sumB L] ∧ Bx.even (sealB L) = true := by
  rw [seal_file]; exact Bx.boxes_file (seal_right h)
theorem length_last (L : List Bx.Box) : (Bx.file [sumB L]).length = 12 := by
  rw [Bx.length_file _ (by simp [rSum])]; simp [Bx.sizes, sumB, Bx.length_four]
theorem length_seal {L : List Bx.Box} (h : L.all Bx.rightB = true) : (sealB L).length = Bx.sizes L + 12 := by
  unfold sealB
  rw [List.length_append, length_last, Bx.length_file L h]

/- opening -/
def D (b : List UInt8) (k : Nat) : List UInt8 := (((Bx.boxes b)[k]?).getD (⟨#[]⟩, [])).2
def lastB (b : List UInt8) : Bx.Box := (Bx.boxes b).getLastD (⟨#[]⟩, [])
def summed (b : List UInt8) : Bool := decide (12 ≤ b.length) && decide (Bx.of4 (b.drop (b.length - 4)) = Crc.sum (b.take (b.length - 12)))
def opE (b : List UInt8) (ks : List ByteArray) : Int :=
  if Bx.even b = false then 161 else if (Bx.boxes b).map Prod.fst ≠ ks then 171 else if (lastB b).2.length ≠ 4 then 171 else if summed b = false then 172 else 0
def sealed (b : List UInt8) : Bool := Bx.even b && !(Bx.boxes b).isEmpty && decide ((lastB b).1 = kSumm) && decide ((lastB b).2.length = 4) && summed b
theorem op_no {b : List UInt8} {ks : List ByteArray} (h : Bx.even b = false) : opE b ks = 161 := if_pos h
theorem op_kinds {b : List UInt8} {ks : List ByteArray} (h : Bx.even b = true) (h2 : (Bx.boxes b).map Prod.fst ≠ ks) : opE b ks = 171 := by
  unfold opE; rw [if_neg (by rw [h]; simp), if_pos h2]
theorem op_last {b : List UInt8} {ks : List ByteArray} (h : Bx.even b = true) (h2 : (Bx.boxes b).map Prod.fst = ks) (h3 : (lastB b).2.length ≠ 4) : opE b ks = 171 := by
  unfold opE; rw [if_neg (by rw [h]; simp), if_neg (by rw [h2]; simp), if_pos h3]
theorem op_sum {b : List UInt8} {ks : List ByteArray} (h : Bx.even b = true) (h2 : (Bx.boxes b).map Prod.fst = ks) (h3 : (lastB b).2.length = 4) (h4 : summed b = false) : opE b ks = 172 := by
  unfold opE; rw [if_neg (by rw [h]; simp), if_neg (by rw [h2]; simp), if_neg (by omega), if_pos h4]
theorem op_yes {b : List UInt8} {ks : List ByteArray} (h : Bx.even b = true) (h2 : (Bx.boxes b).map Prod.fst = ks) (h3 : (lastB b).2.length = 4) (h4 : summed b = true) : opE b ks = 0 := by
  unfold opE; rw [if_neg (by rw [h]; simp), if_neg (by rw [h2]; simp), if_neg (by omega), if_neg (by rw [h4]; simp)]
theorem op_of {b : List UInt8} {ks : List ByteArray} (h : opE b ks = 0) : Bx.even b = true ∧ (Bx.boxes b).map Prod.fst = ks ∧ (lastB b).2.length = 4 ∧ summed b = true := by
  unfold opE at h
  split at h
  · cases h
  · rename_i h1
    split at h
    · cases h
    · rename_i h2
      split at h
      · cases h
      · rename_i h3
        split at h
        · cases h
        · rename_i h4
          exact ⟨by simpa using h1, by simpa using h2, by omega, by simpa using h4⟩
theorem last_split {b : List UInt8} {L : List Bx.Box} {x : Bx.Box} (he : Bx.even b = true) (hb : Bx.boxes b = L ++ [x]) (hx : x.2.length = 4) :
    b.take (b.length - 12) = Bx.file L ∧ b.drop (b.length - 4) = x.2 ∧ 12 ≤ b.length ∧ b = Bx.file L ++ Bx.enc x := by
  have hr := Bx.boxes_right b
  have hf := Bx.file_even he
  rw [hb] at hr hf
  rw [List.all_append] at hr
  simp at hr
  have hx' : Bx.rightB x = true := hr.2
  have h4 := (Bx.right_of hx').1
  rw [Bx.file_append] at hf
  have e1 : Bx.file [x] = Bx.enc x := by simp [Bx.file]
  rw [e1] at hf
  have hl := Bx.length_enc hx'
  have hbl : b.length = (Bx.file L).length + 12 := by rw [← hf, List.length_append, hl, hx]
  refine ⟨?_, ?_, by omega, hf.symm⟩
  · rw [hbl, show (Bx.file L).length + 12 - 12 = (Bx.file L).length by omega, ← hf]; exact List.take_left
  · have hl2 : (Bx.file L ++ (Bx.four (8 + x.2.length) ++ x.1.data.toList)).length = b.length - 4 := by
      rw [List.length_append, List.length_append, Bx.length_four, Bx.size_data, h4]; omega
    rw [← hl2]
    have : b = (Bx.file L ++ (Bx.four (8 + x.2.length) ++ x.1.data.toList)) ++ x.2 := by rw [← hf]; simp [Bx.enc]
    rw [this]
    have hl3 := hl2
    exact List.drop_left
theorem lastB_of {b : List UInt8} {L : List Bx.Box} {x : Bx.Box} (hb : Bx.boxes b = L ++ [x]) : lastB b = x := by unfold lastB; rw [hb]; simp
theorem summed_of {b : List UInt8} {L : List Bx.Box} {x : Bx.Box} (he : Bx.even b = true) (hb : Bx.boxes b = L ++ [x]) (hx : x.2.length = 4) : summed b = decide (Bx.of4 x.2 = Crc.sum (Bx.file L)) := by
  obtain ⟨h1, h2, h3, _⟩ := last_split he hb hx
  unfold summed
  rw [h1, h2, decide_eq_true h3, Bool.true_and]
/-- what is open is sealed -/
theorem open_seal {b : List UInt8} {L : List Bx.Box} {x : List UInt8} (he : Bx.even b = true) (hb : Bx.boxes b = L ++ [(kSumm, x)]) (hx : x.length = 4) (hs : summed b = true) : b = sealB L := by
  obtain ⟨_, _, _, h4⟩ := last_split he hb hx
  rw [summed_of he hb hx, decide_eq_true_eq] at hs
  have : x = Bx.four (Crc.sum (Bx.file L)) := by
    rw [← hs, Bx.four_of4 _ (by simp [hx]), List.take_of_length_le (by simp [hx])]
  unfold sealB sumB
  rw [← this]
  exact h4.trans (by simp [Bx.file])
theorem seal_open {L : List Bx.Box} (h : L.all Bx.rightB = true) : lastB (sealB L) = sumB L ∧ summed (sealB L) = true ∧ opE (sealB L) (L.map Prod.fst ++ [kSumm]) = 0 ∧ sealed (sealB L) = true := by
  obtain ⟨h1, h2⟩ := seal_boxes h
  have h3 : (sumB L).2.length = 4 := Bx.length_four _
  have h4 : summed (sealB L) = true := by
    rw [summed_of h2 h1 h3, decide_eq_true_eq]
    have := Bx.of4_four (Crc.sum (Bx.file L)) (Crc.sum_lt _) []
    rw [List.append_nil] at this
    exact this
  have h5 := lastB_of h1
  refine ⟨h5, h4, op_yes h2 (by rw [h1]; simp [sumB]) (by rw [h5]; exact h3) h4, ?_⟩
  unfold sealed
  rw [h2, h5, h4, h1, decide_eq_true h3]
  simp [sumB]

/- inits -/
def kI : List ByteArray := [kHead, kSequ, kSumm]
def kM : List ByteArray := [kHead, kTabl, kData, kSumm]
def candI (b : List UInt8) : Ini := ⟨str ((D b 0).take ((D b 0).length - 8)), psRW (D b 1), psRH (D b 1), psRG (D b 1), (Bx.of4 ((D b 0).drop ((D b 0).length - 8)) : Int), (Bx.of4 ((D b 0).drop ((D b 0).length - 8 + 4)) : Int)⟩
def piOk (b : List UInt8) : Bool := decide (opE b kI = 0) && decide (8 ≤ (D b 0).length) && psOk (D b 1) && rightI (candI b)
def piR (b : List UInt8) : Ini := if piOk b = true then candI b else ⟨⟨#[]⟩, 0, 0, 0, 0, 0⟩
def piE (b : List UInt8) : Int := if opE b kI = 0 then (if piOk b = true then 0 else 171) else opE b kI
theorem pi_of {b : List UInt8} (h : piOk b = true) : opE b kI = 0 ∧ 8 ≤ (D b 0).length ∧ psOk (D b 1) = true ∧ rightI (candI b) = true := by
  unfold piOk at h
  simp only [Bool.and_eq_true, decide_eq_true_eq] at h
  exact ⟨h.1.1.1, h.1.1.2, h.1.2, h.2⟩
theorem pi_true {b : List UInt8} (h1 : opE b kI = 0) (h2 : 8 ≤ (D b 0).length) (h3 : psOk (D b 1) = true) (h4 : rightI (candI b) = true) : piOk b = true := by
  unfold piOk
  rw [decide_eq_true h1, decide_eq_true h2, h3, h4]; rfl
theorem pi_false {b : List UInt8} (h : ¬ (opE b kI = 0 ∧ 8 ≤ (D b 0).length ∧ psOk (D b 1) = true ∧ rightI (candI b) = true)) : piOk b = false := by
  cases e : piOk b
  · rfl
  · exact absurd (pi_of e) h
theorem pi_yes {b : List UInt8} (h : piOk b = true) : piR b = candI b ∧ piE b = 0 := by
  unfold piR piE; rw [if_pos h, if_pos h, if_pos (pi_of h).1]; exact ⟨rfl, rfl⟩
theorem pi_no {b : List UInt8} (h : piOk b = false) : piR b = ⟨⟨#[]⟩, 0, 0, 0, 0, 0⟩ ∧ piE b = (if opE b kI = 0 then 171 else opE b kI) := by
  unfold piR piE; rw [h]; exact ⟨rfl, rfl⟩
theorem pi_zero {b : List UInt8} : piE b = 0 ↔ piOk b = true := by
  constructor
  · intro h
    cases e : piOk b
    · rw [(pi_no e).2] at h
      split at h
      · cases h
      · contradiction
    · rfl
  · exact fun h => (pi_yes h).2
theorem len3 {b : List UInt8} {k0 k1 k2 : ByteArray} (h : (Bx.boxes b).map Prod.fst = [k0, k1, k2]) : ∃ d0 d1 d2, Bx.boxes b = [(k0, d0), (k1, d1)] ++ [(k2, d2)] ∧ D b 0 = d0 ∧ D b 1 = d1 := by
  unfold D
  match hb : Bx.boxes b, h with
  | [(a0, d0), (a1, d1), (a2, d2)], h =>
    simp at h
    obtain ⟨rfl, rfl, rfl⟩ := h
    exact ⟨d0, d1, d2, rfl, rfl, rfl⟩
theorem len4 {b : List UInt8} {k0 k1 k2 k3 : ByteArray} (h : (Bx.boxes b).map Prod.fst = [k0, k1, k2, k3]) : ∃ d0 d1 d2 d3, Bx.boxes b = [(k0, d0), (k1, d1), (k2, d2)] ++ [(k3, d3)] ∧ D b 0 = d0 ∧ D b 1 = d1 ∧ D b 2 = d2 := by
  unfold D
  match hb : Bx.boxes b, h with
  | [(a0, d0), (a1, d1), (a2, d2), (a3, d3)], h =>
    simp at h
    obtain ⟨rfl, rfl, rfl, rfl⟩ := h
    exact ⟨d0, d1, d2, d3, rfl, rfl, rfl, rfl⟩
theorem openI {b : List UInt8} (h : opE b kI = 0) : b = sealB [(kHead, D b 0), (kSequ, D b 1)] := by
  obtain ⟨h1, h2, h3, h4⟩ := op_of h
  obtain ⟨d0, d1, d2, e, e0, e1⟩ := len3 h2
  rw [lastB_of e] at h3
  rw [e0, e1]
  exact open_seal h1 e h3 h4
theorem openM {b : List UInt8} (h : opE b kM = 0) : b = sealB [(kHead, D b 0), (kTabl, D b 1), (kData, D b 2)] := by
  obtain ⟨h1, h2, h3, h4⟩ := op_of h
  obtain ⟨d0, d1, d2, d3, e, e0, e1, e2⟩ := len4 h2
  rw [lastB_of e] at h3
  rw [e0, e1, e2]
  exact open_seal h1 e h3 h4
theorem four_split (h : List UInt8) (n : Nat) (hl : n + 8 = h.length) : h.take n ++ Bx.four (Bx.of4 (h.drop n)) ++ Bx.four (Bx.of4 (h.drop (n + 4))) = h := by
  rw [Bx.four_of4 _ (by rw [List.length_drop]; omega), Bx.four_of4 _ (by rw [List.length_drop]; omega)]
  have e2 : (h.drop (n + 4)).take 4 = h.drop (n + 4) := List.take_of_length_le (by rw [List.length_drop]; omega)
  rw [e2, List.append_assoc]
  have : (h.drop n).take 4 ++ h.drop (n + 4) = h.drop n := by
    rw [← List.drop_drop, List.take_append_drop]
  rw [this, List.take_append_drop]
theorem pi_box {b : List UInt8} (h1 : 8 ≤ (D b 0).length) (h2 : psOk (D b 1) = true) : boxI (candI b) = [(kHead, D b 0), (kSequ, D b 1)] := by
  unfold boxI candI
  obtain ⟨e1, e2, e3, _⟩ := psR_yes h2
  have h3 := (ps_spec h2).2
  simp only [Int.toNat_natCast]
  rw [e1, e2, e3, ← h3]
  have : (str ((D b 0).take ((D b 0).length - 8))).data.toList = (D b 0).take ((D b 0).length - 8) := rfl
  rw [this, four_split _ _ (by omega)]
/-- what is parsed has this file -/
theorem pi_file {b : List UInt8} (h : piOk b = true) : fileI (candI b) = b := by
  obtain ⟨h1, h2, h3, _⟩ := pi_of h
  unfold fileI
  rw [pi_box h2 h3]
  exact (openI h1).symm
/-- what was written is parsed -/
theorem pi_back {i : Ini} (h : rightI i = true) : piOk (fileI i) = true ∧ candI (fileI i) = i ∧ sealed (fileI i) = true := by
  have hr := boxI_right h
  obtain ⟨_, _, h3, h4⟩ := seal_open hr
  obtain ⟨hb, _⟩ := seal_boxes hr
  obtain ⟨⟨_, hn⟩, _, hs, hS, hT⟩ := rightI_of h
  have d0 : D (fileI i) 0 = i.nm.data.toList ++ Bx.four i.S.toNat ++ Bx.four i.T.toNat := by unfold D fileI; rw [hb]; rfl
  have d1 : D (fileI i) 1 = Syn.seqL i.W i.H i.G := by unfold D fileI; rw [hb]; rfl
  obtain ⟨p1, p2, p3, p4⟩ := ps_of hs
  obtain ⟨q1, q2, q3, _⟩ := psR_yes p1
  have hlen : (D (fileI i) 0).length = i.nm.size + 8 := by rw [d0, List.length_append, List.length_append, Bx.length_four, Bx.length_four, Bx.size_data]
  have hnm : i.nm.data.toList.length = i.nm.size := Bx.size_data _
  have hc : candI (fileI i) = i := by
    unfold candI
    rw [hlen, d0, d1, q1, q2, q3, p2, p3, p4, show i.nm.size + 8 - 8 = i.nm.size by omega, List.append_assoc, ← hnm, List.take_left, Bx.str_data, List.drop_left]
    rw [← List.drop_drop, List.drop_left]
    have e4 : (Bx.four i.S.toNat ++ Bx.four i.T.toNat).drop 4 = Bx.four i.T.toNat := rfl
    rw [e4, Bx.of4_four _ (by omega)]
    have := Bx.of4_four i.T.toNat (by omega) []
    rw [List.append_nil] at this
    rw [this]
    obtain ⟨nm, W, H, G, S, T⟩ := i
    dsimp only at hS hT ⊢
    congr 1 <;> omega
  refine ⟨pi_true h3 (by omega) (by rw [d1]; exact p1) (by rw [hc]; exact h), hc, h4⟩

/- media -/
def samp : Nat → List UInt8 → List UInt8 → Option (List (List UInt8) × List UInt8)
  | 0, _, d => some ([], d)
  | k + 1, t, d => if d.length < Bx.of4 t then none else (samp k (t.drop 4) (d.drop (Bx.of4 t))).map fun x => (d.take (Bx.of4 t) :: x.1, x.2)
theorem samp_of : ∀ (k : Nat) (t d : List UInt8) (x : List (List UInt8) × List UInt8), samp k t d = some x → 4 * k ≤ t.length → table x.1 = t.take (4 * k) ∧ x.1.flatten ++ x.2 = d ∧ x.1.length = k
  | 0, t, d, x, h, _ => by
    simp [samp] at h
    subst h
    exact ⟨rfl, rfl, rfl⟩
  | k + 1, t, d, x, h, hl => by
    unfold samp at h
    split at h
    · cases h
    · rename_i hd
      rcases hs : samp k (t.drop 4) (d.drop (Bx.of4 t)) with _ | y
      · rw [hs] at h; cases h
      · rw [hs] at h
        simp at h
        subst h
        obtain ⟨i1, i2, i3⟩ := samp_of k _ _ y hs (by rw [List.length_drop]; omega)
        refine ⟨?_, ?_, ?_⟩
        · show Bx.four (d.take (Bx.of4 t)).length ++ table y.1 = _
          rw [i1, List.length_take, Nat.min_eq_left (by omega), Bx.four_of4 _ (by omega), show 4 * (k + 1) = 4 + 4 * k by omega, List.take_add]
        · show (d.take (Bx.of4 t) ++ y.1.flatten) ++ y.2 = d
          rw [List.append_assoc, i2, List.take_append_drop]
        · show y.1.length + 1 = k + 1
          rw [i3]
theorem samp_back : ∀ (L : List (List UInt8)) (r : List UInt8), (∀ s ∈ L, s.length < 4294967296) → samp L.length (table L) (L.flatten ++ r) = some (L, r)
  | [], r, _ => rfl
  | s :: L, r, h => by
    have e1 : table (s :: L) = Bx.four s.length ++ table L := rfl
    have e2 := Bx.of4_four s.length (h s (by simp)) (table L)
    have e3 : (Bx.four s.length ++ table L).drop 4 = table L := rfl
    have e4 : (s :: L).flatten ++ r = s ++ (L.flatten ++ r) := by simp
    show samp (L.length + 1) _ _ = _
    unfold samp
    rw [e1, e2, e3, e4, if_neg (by rw [List.length_append]; omega), List.drop_left, List.take_left, samp_back L r (fun x hx => h x (by simp [hx]))]
    rfl
def candM (b : List UInt8) : Med := ⟨(Bx.of4 (D b 0) : Int), (Bx.of4 ((D b 0).drop 4) : Int), ((samp (Bx.of4 ((D b 0).drop 8)) (D b 1) (D b 2)).getD ([], [])).1⟩
def cutOk (b : List UInt8) : Bool := decide ((D b 0).length = 12) && decide ((D b 1).length = 4 * Bx.of4 ((D b 0).drop 8)) && (match samp (Bx.of4 ((D b 0).drop 8)) (D b 1) (D b 2) with | some x => x.2.isEmpty | none => false)
def pmOk (b : List UInt8) : Bool := decide (opE b kM = 0) && cutOk b && rightM (candM b)
def pmR (b : List UInt8) : Med := if pmOk b = true then candM b else ⟨0, 0, []⟩
def pmE (b : List UInt8) : Int := if opE b kM = 0 then (if pmOk b = true then 0 else 171) else opE b kM
theorem cut_of {b : List UInt8} (h : cutOk b = true) : (D b 0).length = 12 ∧ (D b 1).length = 4 * Bx.of4 ((D b 0).drop 8) ∧ ∃ L, samp (Bx.of4 ((D b 0).drop 8)) (D b 1) (D b 2) = some (L, []) := by
  unfold cutOk at h
  simp only [Bool.and_eq_true, decide_eq_true_eq] at h
  refine ⟨h.1.1, h.1.2, ?_⟩
  have h2 := h.2
  rcases hs : samp (Bx.of4 ((D b 0).drop 8)) (D b 1) (D b 2) with _ | ⟨L, r⟩
  · rw [hs] at h2; cases h2
  · rw [hs] at h2
    simp at h2
    subst h2
    exact ⟨L, rfl⟩
theorem cut_true {b : List UInt8} {L : List (List UInt8)} (h1 : (D b 0).length = 12) (h2 : (D b 1).length = 4 * Bx.of4 ((D b 0).drop 8)) (h3 : samp (Bx.of4 ((D b 0).drop 8)) (D b 1) (D b 2) = some (L, [])) : cutOk b = true := by
  unfold cutOk
  rw [decide_eq_true h1, decide_eq_true h2, h3]; rfl
theorem pm_of {b : List UInt8} (h : pmOk b = true) : opE b kM = 0 ∧ cutOk b = true ∧ rightM (candM b) = true := by
  unfold pmOk at h
  simp only [Bool.and_eq_true, decide_eq_true_eq] at h
  exact ⟨h.1.1, h.1.2, h.2⟩
theorem pm_true {b : List UInt8} (h1 : opE b kM = 0) (h2 : cutOk b = true) (h4 : rightM (candM b) = true) : pmOk b = true := by
  unfold pmOk
  rw [decide_eq_true h1, h2, h4]; rfl
theorem pm_false {b : List UInt8} (h : ¬ (opE b kM = 0 ∧ cutOk b = true ∧ rightM (candM b) = true)) : pmOk b = false := by
  cases e : pmOk b
  · rfl
  · exact absurd (pm_of e) h
theorem pm_yes {b : List UInt8} (h : pmOk b = true) : pmR b = candM b ∧ pmE b = 0 := by
  unfold pmR pmE; rw [if_pos h, if_pos h, if_pos (pm_of h).1]; exact ⟨rfl, rfl⟩
theorem pm_no {b : List UInt8} (h : pmOk b = false) : pmR b = ⟨0, 0, []⟩ ∧ pmE b = (if opE b kM = 0 then 171 else opE b kM) := by
  unfold pmR pmE; rw [h]; exact ⟨rfl, rfl⟩
theorem pm_zero {b : List UInt8} : pmE b = 0 ↔ pmOk b = true := by
  constructor
  · intro h
    cases e : pmOk b
    · rw [(pm_no e).2] at h
      split at h
      · cases h
      · contradiction
    · rfl
  · exact fun h => (pm_yes h).2
theorem three_split (h : List UInt8) (hl : h.length = 12) : Bx.four (Bx.of4 h) ++ Bx.four (Bx.of4 (h.drop 4)) ++ Bx.four (Bx.of4 (h.drop 8)) = h := by
  rw [Bx.four_of4 h (by omega)]
  exact four_split h 4 (by omega)
theorem pm_box {b : List UInt8} (h : cutOk b = true) : boxM (candM b) = [(kHead, D b 0), (kTabl, D b 1), (kData, D b 2)] := by
  obtain ⟨h1, h2, L, h3⟩ := cut_of h
  obtain ⟨e1, e2, e3⟩ := samp_of _ _ _ _ h3 (by omega)
  unfold boxM candM
  rw [h3]
  simp only [Option.getD_some, Int.toNat_natCast]
  dsimp only at e1 e2 e3
  rw [e3, e1, three_split _ h1, ← h2, List.take_length]
  rw [List.append_nil] at e2
  rw [e2]
theorem pm_file {b : List UInt8} (h : pmOk b = true) : fileM (candM b) = b := by
  obtain ⟨h1, h2, _⟩ := pm_of h
  unfold fileM
  rw [pm_box h2]
  exact (openM h1).symm
theorem mem_flatten_le {L : List (List UInt8)} {s : List UInt8} (h : s ∈ L) : s.length ≤ L.flatten.length := by
  induction L with
  | nil => cases h
  | cons x L ih =>
    rw [List.flatten_cons, List.length_append]
    rcases List.mem_cons.1 h with rfl | h
    · omega
    · have := ih h; omega
theorem med_eq (m : Med) (h1 : 0 ≤ m.N) (h2 : 0 ≤ m.F) : (⟨(m.N.toNat : Int), (m.F.toNat : Int), ((some (m.L, ([] : List UInt8))).getD ([], [])).1⟩ : Med) = m := by
  rw [Int.toNat_of_nonneg h1, Int.toNat_of_nonneg h2]; rfl
theorem pm_back {m : Med} (h : rightM m = true) : pmOk (fileM m) = true ∧ candM (fileM m) = m ∧ sealed (fileM m) = true := by
  have hr := boxM_right h
  obtain ⟨_, _, h3, h4⟩ := seal_open hr
  obtain ⟨hb, _⟩ := seal_boxes hr
  obtain ⟨hN, ⟨_, hl⟩, _, hf⟩ := rightM_of h
  have d0 : D (fileM m) 0 = Bx.four m.N.toNat ++ (Bx.four m.F.toNat ++ Bx.four m.L.length) := by unfold D fileM; rw [hb]; show Bx.four m.N.toNat ++ Bx.four m.F.toNat ++ Bx.four m.L.length = _; rw [List.append_assoc]
  have d1 : D (fileM m) 1 = table m.L := by unfold D fileM; rw [hb]; rfl
  have d2 : D (fileM m) 2 = m.L.flatten := by unfold D fileM; rw [hb]; rfl
  have e4 : (D (fileM m) 0).drop 4 = Bx.four m.F.toNat ++ Bx.four m.L.length := by rw [d0]; rfl
  have e8 : (D (fileM m) 0).drop 8 = Bx.four m.L.length := by rw [d0]; rfl
  have o0 : Bx.of4 (D (fileM m) 0) = m.N.toNat := by rw [d0]; exact Bx.of4_four _ (by omega) _
  have o4 : Bx.of4 ((D (fileM m) 0).drop 4) = m.F.toNat := by rw [e4]; exact Bx.of4_four _ (by omega) _
  have o8 : Bx.of4 ((D (fileM m) 0).drop 8) = m.L.length := by
    rw [e8]
    have := Bx.of4_four m.L.length (by omega) []
    rwa [List.append_nil] at this
  have hs : samp (Bx.of4 ((D (fileM m) 0).drop 8)) (D (fileM m) 1) (D (fileM m) 2) = some (m.L, []) := by
    rw [o8, d1, d2]
    have := samp_back m.L [] (fun s hs => by have := mem_flatten_le hs; omega)
    rwa [List.append_nil] at this
  have hc : candM (fileM m) = m := by
    unfold candM
    rw [hs, o0, o4]
    exact med_eq m hN.1 hN.2.2.1
  exact ⟨pm_true h3 (cut_true (by rw [d0]; rfl) (by rw [d1, length_table, o8]) hs) (by rw [hc]; exact h), hc, h4⟩
/-- an init's file is no media's -/
theorem pi_pm {b : List UInt8} (h : piOk b = true) : pmOk b = false := by
  refine pm_false fun h2 => ?_
  have h1 := (op_of (pi_of h).1).2.1
  rw [(op_of h2.1).2.1] at h1
  cases h1
theorem sizes_boxI (i : Ini) : Bx.sizes (boxI i) = 24 + i.nm.size + (Syn.seqL i.W i.H i.G).length := by
  have hl : i.nm.data.toList.length = i.nm.size := rfl
  simp only [boxI, Bx.sizes, List.length_append, Bx.length_four, hl]; omega
theorem sizes_boxM (m : Med) : Bx.sizes (boxM m) = 36 + 4 * m.L.length + m.L.flatten.length := by
  simp only [boxM, Bx.sizes, List.length_append, Bx.length_four, length_table]; omega
end Sg
