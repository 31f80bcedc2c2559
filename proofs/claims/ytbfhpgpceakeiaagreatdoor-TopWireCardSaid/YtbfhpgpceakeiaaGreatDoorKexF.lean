/- Append, copy, clear, and bytes of text, on a state. Over any program; no conditions but the room. -/
import Derived.Test.YtbfhpgpceakeiaaGreatDoorKexE
import Derived.Test.YtbfhpgpceakeiaaGreatDoorAppS
namespace Kex
open Go Go.RowKit Kin

theorem grown_below {w w' : World} (hg : w.grownBy w' none) : Below w.heap.size w w' := (Below.refl _ w).grown hg (Nat.le_refl _) (fun k e => by cases e)
def two (g c : Nat) : Nat → Nat
  | 0 => g
  | _ => c
theorem v_two (ρ : Rho) (nx g c : Nat) : (SN.v nx).den (updR ρ nx (two g c)) = g ∧ (SN.v (nx + 1)).den (updR ρ nx (two g c)) = c := ⟨updR_at ρ nx _ 0, updR_at ρ nx _ 1⟩
section
variable {X : Cx} {ρ : Rho} {L : List SF} {nx : Nat} {w : World}
theorem gro_al {nx : Nat} {t : TypeId} {m n : Nat} {xs : List SC} (hx : xs.all (SC.al (lt nx)) = true) : SF.al (lt (nx + 2)) (.gro (.v nx) t m n ⟨0, some (nx + 1)⟩ xs) = true := by
  show (lt (nx + 2) nx && lt (nx + 2) (nx + 1) && xs.all (SC.al (lt (nx + 2)))) = true
  rw [show lt (nx + 2) nx = true from lt_iff.2 (by omega), show lt (nx + 2) (nx + 1) = true from lt_iff.2 (by omega), SCs_mono (lt_mono (by omega)) hx]
  rfl
theorem k_two (ρ : Rho) (nx g c : Nat) : SK.den (updR ρ nx (two g c)) ⟨0, some (nx + 1)⟩ = c := by
  show 0 + (updR ρ nx (two g c)) (nx + 1) = c
  rw [Nat.zero_add]
  exact (v_two ρ nx g c).2
theorem gro_den (ρ : Rho) (nx g c : Nat) (t : TypeId) (m n : Nat) {xs : List SC} (hx : xs.all (SC.al (lt nx)) = true) : SF.den (updR ρ nx (two g c)) (.gro (.v nx) t m n ⟨0, some (nx + 1)⟩ xs) = Fac.of (Fact.gro g t m n c (dens ρ xs)) := by
  simp only [SF.den]
  rw [(v_two ρ nx g c).1, k_two, dens_al (updR_agr ρ nx _) hx]
/-- a block of room, new -/
theorem Hp.grow0 (h : Hp X ρ L nx w) {t : TypeId} {m n c g : Nat} {xs : List SC} {w' : World} (hx : xs.all (SC.al (lt nx)) = true) (hs : (Fac.of (Fact.gro g t m n c (dens ρ xs))).say w') (hb : Below w.heap.size w w') (hg : w.heap.size ≤ g) :
    Hp X (updR ρ nx (two g c)) (.gro (.v nx) t m n ⟨0, some (nx + 1)⟩ xs :: L) (nx + 2) w' := by
  refine h.re (updR_agr ρ nx _) (by omega) ?_ ?_
  · rw [List.all_cons, gro_al hx, SFs_mono (lt_mono (by omega)) h.fl]
    rfl
  · rw [List.map_cons, reL h (updR_agr ρ nx _), gro_den ρ nx g c t m n hx]
    exact h.st.fresh (G := [Fac.of (Fact.gro g t m n c (dens ρ xs))]) (Post.one hb hs (by simp) rfl (fun k hk => by
      have e : k = g := by simpa using hk
      omega))
/-- a block of room becomes another -/
theorem Hp.grow1 (h : Hp X ρ L nx w) {i : Nat} {f : SF} (hat : L[i]? = some f) {g0 : Nat} (ho : (f.den ρ).own = [g0]) {t : TypeId} {m n c g : Nat} {xs : List SC} {w' : World} (hx : xs.all (SC.al (lt nx)) = true) (hs : (Fac.of (Fact.gro g t m n c (dens ρ xs))).say w') (hg : w.grownBy w' (some g0)) (ha : g = g0 ∨ w.heap.size ≤ g) :
    Hp X (updR ρ nx (two g c)) (.gro (.v nx) t m n ⟨0, some (nx + 1)⟩ xs :: dropA [i] 0 L) (nx + 2) w' := by
  refine h.re (updR_agr ρ nx _) (by omega) ?_ ?_
  · rw [List.all_cons, gro_al hx, SFs_mono (lt_mono (by omega)) (all_dropA h.fl)]
    rfl
  · have e : (dropA [i] 0 L).map (SF.den (updR ρ nx (two g c))) = (dropA [i] 0 L).map (SF.den ρ) := SFs_al (updR_agr ρ nx _) (all_dropA h.fl)
    rw [List.map_cons, e, gro_den ρ nx g c t m n hx, ← dropI_map]
    have hp : pick [i] (L.map (SF.den ρ)) = [f.den ρ] := by simp only [pick, nth_map (ρ := ρ) hat]
    refine h.st.step (G := [Fac.of (Fact.gro g t m n c (dens ρ xs))]) [i] ?_
    rw [hp]
    refine ⟨⟨hs, trivial⟩, by simp [owns], fun k hk => by simp [rds] at hk, fun k hk => ?_, fun k hk => by simp [rds] at hk, (Chg.refl _ w).grown hg (fun k hk => .inl (by injection hk with hk; simp [owns, ho, hk]))⟩
    have hk : k = g := by simpa [owns] using hk
    rcases ha with e | e
    · left
      simp [owns, ho, hk, e]
    · right
      omega
end
/-- the cells of what is appended or copied: of a slice, of a text -/
def srcC (Ps L : List SF) (m : Nat) : SV → Option (Nat × List SC)
  | .e (.c (.slice none k _)) => match k with
    | 0 => some (0, [])
    | _ => none
  | .e (.c (.emp _ _ _)) => some (0, [])
  | .e (.c (.slice (some (g, o)) k _)) => match facOf Ps L g with
    | some f => match cellsF f with
      | some xs => match Nat.beq ((xs.drop o).take (k * m)).length (k * m) with
        | true => some (k, (xs.drop o).take (k * m))
        | false => none
      | none => none
    | none => none
  | _ => none
def strC (b : ByteArray) : List SC := b.data.toList.map fun u => .int .u8 (u.toNat : Int)
theorem strC_den (ρ : Rho) (b : ByteArray) : dens ρ (strC b) = B8 b.data.toList := by
  unfold dens strC B8
  rw [List.map_map]
  rfl
theorem strC_al (p : Nat → Bool) (b : ByteArray) : (strC b).all (SC.al p) = true := by
  unfold strC
  rw [List.all_map, List.all_eq_true]
  intro x _
  rfl
section
variable {X : Cx} {ρ : Rho} {L : List SF} {nx : Nat} {w : World}
theorem fac_cells (h : Hp X ρ L nx w) {g : SN} {f : SF} {xs : List SC} (hf : facOf X.Ps L g = some f) (hx : cellsF f = some xs) {j : Nat} {v : SC} (hj : xs[j]? = some v) : w.cell? ⟨g.den ρ, j, none⟩ = some (v.den ρ) :=
  cellsF_s (h.says (facOf_s hf).1) (facOf_s hf).2 hx hj
theorem fac_al (h : Hp X ρ L nx w) {g : SN} {f : SF} {xs : List SC} (hf : facOf X.Ps L g = some f) (hx : cellsF f = some xs) : xs.all (SC.al (lt nx)) = true := by
  have hfa : f.al (lt nx) = true := by
    rcases (facOf_s hf).1 with e | e
    · exact List.all_eq_true.1 h.fl f e
    · exact SF.al_mono (lt_mono h.le) (List.all_eq_true.1 h.po f e)
  cases f with
  | blk g t cs =>
    injection hx with hx
    subst hx
    unfold SF.al at hfa
    rw [Bool.and_eq_true] at hfa
    exact hfa.2
  | gro g t m c cs =>
    injection hx with hx
    subst hx
    unfold SF.al at hfa
    rw [Bool.and_eq_true] at hfa
    exact hfa.2
  | ro g cs =>
    injection hx with hx
    subst hx
    unfold SF.al at hfa
    rw [Bool.and_eq_true] at hfa
    exact hfa.2
  | map g es n => cases hx
  | itr g s n => cases hx
theorem all_cut {p : SC → Bool} {xs : List SC} (h : xs.all p = true) (o k : Nat) : ((xs.drop o).take k).all p = true := by
  rw [List.all_eq_true] at *
  exact fun x hx => h x (List.mem_of_mem_drop (List.mem_of_mem_take hx))
theorem cut_at {xs : List SC} {o k j : Nat} {v : SC} (h : ((xs.drop o).take k)[j]? = some v) : xs[o + j]? = some v := by
  rw [List.getElem?_take] at h
  split at h
  · rw [List.getElem?_drop] at h
    exact h
  · cases h
end
/-- the room -/
def roomy (n by_ : Nat) : Bool := Nat.ble (n * by_) 140737488355328 && Nat.ble n 16777216
section
variable {X : Cx} {ρ : Rho} {L : List SF} {nx : Nat} {w : World}
/-- what is appended, at an address -/
theorem srcC_s (h : Hp X ρ L nx w) {m : Nat} {x : SV} {k : Nat} {news : List SC} (hx : srcC X.Ps L m x = some (k, news)) : news.all (SC.al (lt nx)) = true ∧ news.length = k * m ∧
    ((∃ c, x.den ρ = .slice none k c ∧ k = 0) ∨ ∃ a c, x.den ρ = .slice (some a) k c ∧ a.spot = none ∧ ∀ j u, (dens ρ news)[j]? = some u → w.cell? (a.add j) = some u) := by
  unfold srcC at hx
  split at hx
  · rename_i c
    split at hx
    · injection hx with hx
      injection hx with h1 h2
      subst h1 h2
      exact ⟨rfl, (Nat.zero_mul m).symm, .inl ⟨_, rfl, rfl⟩⟩
    · cases hx
  · rename_i g o c
    injection hx with hx
    injection hx with h1 h2
    subst h1 h2
    exact ⟨rfl, (Nat.zero_mul m).symm, .inr ⟨⟨g.den ρ, o.den ρ, none⟩, c.den ρ, rfl, rfl, fun j u hu => by simp [dens] at hu⟩⟩
  · rename_i g o k' c
    split at hx
    · rename_i f hf
      split at hx
      · rename_i xs hxs
        split at hx
        · rename_i hl
          injection hx with hx
          injection hx with h1 h2
          subst h1 h2
          have hl := Nat.eq_of_beq_eq_true hl
          refine ⟨all_cut (fac_al h hf hxs) _ _, hl, .inr ⟨⟨g.den ρ, o, none⟩, k' + c.den ρ, rfl, rfl, fun j u hu => ?_⟩⟩
          unfold dens at hu
          rw [List.getElem?_map] at hu
          obtain ⟨v, hv, rfl⟩ := Option.map_eq_some_iff.1 hu
          rw [add_plain]
          exact fac_cells h hf hxs (cut_at hv)
        · cases hx
      · cases hx
    · cases hx
  · cases hx
theorem roomy_s {n b : Nat} (h : roomy n b = true) : n * b ≤ 140737488355328 ∧ n ≤ 16777216 := by
  unfold roomy at h
  rw [Bool.and_eq_true] at h
  exact ⟨Nat.le_of_ble_eq_true h.1, Nat.le_of_ble_eq_true h.2⟩
theorem two_al (nx : Nat) {n : Nat} : (SV.e (.c (.slice (some (.v nx, 0)) n ⟨0, some (nx + 1)⟩))).al (lt (nx + 2)) = true := by
  show (lt (nx + 2) nx && lt (nx + 2) (nx + 1)) = true
  rw [show lt (nx + 2) nx = true from lt_iff.2 (by omega), show lt (nx + 2) (nx + 1) = true from lt_iff.2 (by omega)]
  rfl
end
/-- t is a slice of bytes -/
def isB (P : Program) (t : TypeId) : Bool := match P.underlying t with
  | some (.slice e) => match P.underlying e, P.info? e with
    | some (.int .u8), some i => Nat.beq i.size 1
    | _, _ => false
  | _ => false
/-- what is appended: of a slice, or text -/
def srcA (P : Program) (Ps L : List SF) (m : Nat) (t u : TypeId) (x : SV) : Option (Nat × List SC) := match Nat.beq t u with
  | true => srcC Ps L m x
  | false => match P.underlying u, x, isB P t && Nat.beq m 1 with
    | some .string, .e (.c (.str b)), true => some (b.size, strC b)
    | _, _, _ => none
/-- a source of cells -/
structure Src (P : Program) (w : World) (u : TypeId) (m k : Nat) (xv : Value) (news : List Value) : Prop where
  ud : (∃ e, P.underlying u = some (.slice e)) ∨ P.underlying u = some .string
  len : ∀ w', (Builtin.lenOf xv).run P w' = .ok k w'
  fc : ∀ w', (∀ k : Nat, w'.heap[k]? = w.heap[k]?) → (Builtin.firstCells m k xv).run P w' = .ok news.toArray w'
  one : ∀ v ∈ news, v.oneCell' = true
  ln : news.length = k * m
section
variable {P : Program} {w : World} {t u ty e : TypeId} {i : TypeInfo} {zv xv : Value} {k : Nat} {news : List Value}
theorem run_any0 (ht : P.underlying t = some (.slice e)) (hi : P.info? e = some i) (hs : Src P w u i.size 0 xv news) (A : Option Addr) (n c : Nat) (hn : n ≤ c) : (Builtin.append_ #[t, u] ty #[.slice A n c, xv]).run P w = .ok (.slice A n c) w := by
  have hz : news = [] := List.eq_nil_of_length_eq_zero (by rw [hs.ln, Nat.zero_mul])
  have hf := hs.fc w (fun _ => rfl)
  rw [hz] at hf
  rcases hs.ud with ⟨e2, hu⟩ | hu
  · cases A <;> simp [Builtin.append_, run_underlying ht, run_underlying hu, Go.sizeOf, typeInfo, hi, hs.len, hn, hf, storeCells]
  · cases A <;> simp [Builtin.append_, run_underlying ht, run_underlying hu, Go.sizeOf, typeInfo, hi, hs.len, hn, hf, storeCells]
theorem run_anyR (ht : P.underlying t = some (.slice e)) (hi : P.info? e = some i) (hs : Src P w u i.size k xv news) (g o n cap : Nat) (hroom : n + k ≤ cap) {w' : World} (hst : (storeCells ⟨g, o + n * i.size, none⟩ news).run P w = .ok () w') : (Builtin.append_ #[t, u] ty #[.slice (some ⟨g, o, none⟩) n cap, xv]).run P w = .ok (.slice (some ⟨g, o, none⟩) (n + k) cap) w' := by
  have hf := hs.fc w (fun _ => rfl)
  have ha : (⟨g, o, none⟩ : Addr).add (n * i.size) = ⟨g, o + n * i.size, none⟩ := add_plain _ _ _
  rcases hs.ud with ⟨e2, hu⟩ | hu
  · simp [Builtin.append_, run_underlying ht, run_underlying hu, Go.sizeOf, typeInfo, hi, hs.len, hroom, hf, ha, hst]
  · simp [Builtin.append_, run_underlying ht, run_underlying hu, Go.sizeOf, typeInfo, hi, hs.len, hroom, hf, ha, hst]
theorem run_anyG (ht : P.underlying t = some (.slice e)) (hi : P.info? e = some i) (hz : i.zero = some zv) (hs : Src P w u i.size k xv news) (A : Option Addr) (n cap : Nat) (olds : List Value) (ho : ∀ w', (∀ k : Nat, w'.heap[k]? = w.heap[k]?) → (Builtin.firstCells i.size n (.slice A n cap)).run P w' = .ok olds.toArray w') (hg : cap < n + k) (hr : roomy (n + k) i.bytes = true) :
    (Builtin.append_ #[t, u] ty #[.slice A n cap, xv]).run P w = .ok (.slice (some ⟨w.heap.size, 0, none⟩) (n + k) (grownCap w (n + k) cap e)) (w.drew.alloc (.cells (olds.toArray ++ news.toArray ++ Builtin.zeroCells zv.cells (grownCap w (n + k) cap e - (n + k))) e)) := by
  obtain ⟨hby, hsm⟩ := roomy_s hr
  have hn : ¬ (n + k ≤ cap) := by omega
  have h63' : ¬ (9223372036854775807 < ((n : Int) + (k : Int))) := by omega
  have hfit := growslice_fits (bytes := i.bytes) (need := n + k) (old := cap) hg hby
  have h48' : ¬ (281474976710656 < Builtin.nextslicecap (n + k) cap * i.bytes) := by omega
  have hf := hs.fc w.drew (fun _ => rfl)
  have hfo := ho w.drew (fun _ => rfl)
  rcases hs.ud with ⟨e2, hu⟩ | hu
  · simp [Builtin.append_, run_underlying ht, run_underlying hu, Go.sizeOf, typeInfo, zeroValue, hi, hz, hs.len, hn, h63', h48', Question.forced, hf, hfo, newRow, grownCap]
    congr 2
    apply Array.ext'
    simp [List.append_assoc]
  · simp [Builtin.append_, run_underlying ht, run_underlying hu, Go.sizeOf, typeInfo, zeroValue, hi, hz, hs.len, hn, h63', h48', Question.forced, hf, hfo, newRow, grownCap]
    congr 2
    apply Array.ext'
    simp [List.append_assoc]
/-- what a growing append leaves -/
theorem grown_say {n cap : Nat} {olds : List Value} (hzs : zv.cells.size = i.size) (hol : olds.length = n * i.size) (hnl : news.length = k * i.size) (hr : roomy (n + k) i.bytes = true) :
    (Fac.of (Fact.gro w.heap.size e i.size (n + k) (grownCap w (n + k) cap e - (n + k)) (olds ++ news))).say (w.drew.alloc (.cells (olds.toArray ++ news.toArray ++ Builtin.zeroCells zv.cells (grownCap w (n + k) cap e - (n + k))) e)) := by
  obtain ⟨hby, hsm⟩ := roomy_s hr
  have hge := grownCap_ge w (n + k) cap e
  have hle := grownCap_le_maxLen w (n + k) cap e (by unfold maxLen; omega)
  refine ⟨_, (0, 0), heap_alloc_new w.drew _, .inl rfl, ?_, ?_, ?_, ?_⟩
  · rw [List.length_append, hol, hnl, Nat.add_mul]
  · simp only [Array.size_append, List.size_toArray, size_zeroCells, hzs, hol, hnl]
    rw [← Nat.add_mul, ← Nat.add_mul]
  · rw [Nat.add_sub_cancel' hge]
    exact hle
  · simp only [Array.toList_append, List.append_assoc]
    rw [← List.append_assoc, List.take_append_of_le_length (by simp), List.take_of_length_le (by simp)]
end
section
variable {X : Cx} {ρ : Rho} {L : List SF} {nx : Nat} {w : World}
theorem srcA_s (h : Hp X ρ L nx w) {m : Nat} {t u e : TypeId} (ht : X.P.underlying t = some (.slice e)) {x : SV} {k : Nat} {news : List SC} (hx : srcA X.P X.Ps L m t u x = some (k, news)) : news.all (SC.al (lt nx)) = true ∧ Src X.P w u m k (x.den ρ) (dens ρ news) := by
  unfold srcA at hx
  split at hx
  · rename_i htu
    have htu := Nat.eq_of_beq_eq_true htu
    subst htu
    obtain ⟨h1, h2, h3⟩ := srcC_s h hx
    refine ⟨h1, ⟨.inl ⟨e, ht⟩, ?_, ?_, dens_one ρ news, by rw [dens_len, h2]⟩⟩
    · intro w'
      rcases h3 with ⟨c, e3, _⟩ | ⟨a, c, e3, _, _⟩
      · rw [e3]; rfl
      · rw [e3]; rfl
    · intro w' hw
      rcases h3 with ⟨c, e3, hk⟩ | ⟨a, c, e3, _, hc⟩
      · rw [e3]
        subst hk
        have : news = [] := List.eq_nil_of_length_eq_zero (by rw [h2, Nat.zero_mul])
        subst this
        simp [Builtin.firstCells, dens]
      · rw [e3]
        exact run_firstCells_some (P := X.P) w' m k a k c (dens ρ news) (by rw [dens_len, h2]) (fun j v hv => (World.cell?_of_block (a := a.add j) (hw _)).trans (hc j v hv))
  · split at hx
    · rename_i b hu hb
      rw [Bool.and_eq_true] at hb
      have hm := Nat.eq_of_beq_eq_true hb.2
      subst hm
      injection hx with hx
      injection hx with h1 h2
      subst h1 h2
      refine ⟨strC_al _ b, ⟨.inr hu, fun w' => rfl, ?_, dens_one ρ _, ?_⟩⟩
      · intro w' _
        rw [strC_den]
        exact Lib.run_firstCells_string w' 1 b
      · rw [strC_den]
        show (List.map _ _).length = _
        rw [List.length_map, Nat.mul_one]
        rfl
    · cases hx
end
/-- append -/
def appS (P : Program) (Ps L : List SF) (nx : Nat) (t u : TypeId) (s x : SV) : Option (SV × List SF × Nat) := match P.underlying t with
  | some (.slice e) => match P.info? e, zcells P e with
    | some i, some z => match Nat.beq z.length i.size && Nat.blt 0 i.size, srcA P Ps L i.size t u x, s with
      | true, some (k, news), .e (.c (.slice A n c)) => match roomy (n + k) i.bytes with
        | true => match k with
          | 0 => some (s, L, nx)
          | k + 1 => match A with
            | none => match n, c with
              | 0, ⟨0, none⟩ => some (.e (.c (.slice (some (.v nx, 0)) (0 + (k + 1)) ⟨0, some (nx + 1)⟩)), .gro (.v nx) e i.size (0 + (k + 1)) ⟨0, some (nx + 1)⟩ ([] ++ news) :: L, nx + 2)
              | _, _ => none
            | some (g, o) => match findI g 0 L with
              | some (j, .gro _ t' m n' c' cs) => match o, Nat.beq t' e && Nat.beq m i.size && Nat.beq (n + c.k) (n' + c'.k) && eqO Nat.beq c.v c'.v with
                | 0, true => match Nat.beq n n', Nat.ble (n + (k + 1)) n' with
                  | true, _ => some (.e (.c (.slice (some (.v nx, 0)) (n + (k + 1)) ⟨0, some (nx + 1)⟩)), .gro (.v nx) e i.size (n + (k + 1)) ⟨0, some (nx + 1)⟩ (cs ++ news) :: dropA [j] 0 L, nx + 2)
                  | false, true => match wrAt L g (o + n * i.size) news with
                    | some L' => some (.e (.c (.slice (some (g, o)) (n + (k + 1)) ⟨n + c.k - (n + (k + 1)), c.v⟩)), L', nx)
                    | none => none
                  | _, _ => none
                | _, _ => none
              | some (_, .blk _ _ cs) => match c with
                | ⟨ck, none⟩ => match Nat.ble (k + 1) ck with
                  | true => match wrAt L g (o + n * i.size) news with
                    | some L' => some (.e (.c (.slice (some (g, o)) (n + (k + 1)) ⟨ck - (k + 1), none⟩)), L', nx)
                    | none => none
                  | false => match Nat.beq ((cs.drop o).take (n * i.size)).length (n * i.size) with
                    | true => some (.e (.c (.slice (some (.v nx, 0)) (n + (k + 1)) ⟨0, some (nx + 1)⟩)), .gro (.v nx) e i.size (n + (k + 1)) ⟨0, some (nx + 1)⟩ ((cs.drop o).take (n * i.size) ++ news) :: L, nx + 2)
                    | false => none
                | _ => none
              | _ => none
        | false => none
      | _, _, _ => none
    | _, _ => none
  | _ => none
section
variable {X : Cx} {ρ : Rho} {L : List SF} {nx : Nat} {w : World}
theorem appS_s (h : Hp X ρ L nx w) {t u ty : TypeId} {s x : SV} {v : SV} {L' : List SF} {nx' : Nat} (hs : s.al (lt nx) = true) (ha : appS X.P X.Ps L nx t u s x = some (v, L', nx')) :
    ∃ w' ρ', (Builtin.append_ #[t, u] ty #[s.den ρ, x.den ρ]).run X.P w = .ok (v.den ρ') w' ∧ Agr nx ρ ρ' ∧ nx ≤ nx' ∧ v.al (lt nx') = true ∧ Hp X ρ' L' nx' w' := by
  unfold appS at ha
  split at ha
  · rename_i e hu
    split at ha
    · rename_i i z hi hz
      split at ha
      · rename_i k news A n c hb hsrc
        rw [Bool.and_eq_true] at hb
        have hzl := Nat.eq_of_beq_eq_true hb.1
        have hpos : 0 < i.size := Nat.blt_eq ▸ hb.2
        obtain ⟨hnal, hx⟩ := srcA_s h hu hsrc
        obtain ⟨i', zv, hi', hzv, hc⟩ := zcells_s (ρ := ρ) hz
        rw [hi] at hi'
        injection hi' with hi'
        subst hi'
        have hzs : zv.cells.size = i.size := by rw [hc]; simp [dens, hzl]
        split at ha
        · rename_i hroom
          split at ha
          · injection ha with ha
            injection ha with h1 ha
            injection ha with h2 h3
            subst h1 h2 h3
            exact ⟨w, ρ, run_any0 hu hi hx _ n _ (Nat.le_add_right _ _), Agr.refl _ _, Nat.le_refl _, hs, h⟩
          · rename_i k'
            have hnl : (dens ρ news).length = (k' + 1) * i.size := hx.ln
            -- what grows
            have grow : ∀ (olds : List SC) (cap : Nat), olds.all (SC.al (lt nx)) = true → olds.length = n * i.size → (∀ w', (∀ k : Nat, w'.heap[k]? = w.heap[k]?) → (Builtin.firstCells i.size n (.slice (A.map (pden ρ)) n cap)).run X.P w' = .ok (dens ρ olds).toArray w') → cap < n + (k' + 1) →
                (Builtin.append_ #[t, u] ty #[.slice (A.map (pden ρ)) n cap, x.den ρ]).run X.P w = .ok (.slice (some ⟨w.heap.size, 0, none⟩) (n + (k' + 1)) (n + (k' + 1) + (grownCap w (n + (k' + 1)) cap e - (n + (k' + 1))))) (w.drew.alloc (.cells ((dens ρ olds).toArray ++ (dens ρ news).toArray ++ Builtin.zeroCells zv.cells (grownCap w (n + (k' + 1)) cap e - (n + (k' + 1)))) e)) ∧
                (Fac.of (Fact.gro w.heap.size e i.size (n + (k' + 1)) (grownCap w (n + (k' + 1)) cap e - (n + (k' + 1))) (dens ρ (olds ++ news)))).say (w.drew.alloc (.cells ((dens ρ olds).toArray ++ (dens ρ news).toArray ++ Builtin.zeroCells zv.cells (grownCap w (n + (k' + 1)) cap e - (n + (k' + 1)))) e)) := by
              intro olds cap _ hol hf hg
              refine ⟨?_, ?_⟩
              · rw [Nat.add_sub_cancel' (grownCap_ge w (n + (k' + 1)) cap e)]
                exact run_anyG hu hi hzv hx _ n cap (dens ρ olds) hf hg hroom
              · rw [dens_app]
                exact grown_say hzs (by rw [dens_len, hol]) hnl hroom
            have valn : ∀ (g cc : Nat), SV.den (updR ρ nx (two g cc)) (.e (.c (.slice (some (.v nx, 0)) (n + (k' + 1)) ⟨0, some (nx + 1)⟩))) = .slice (some ⟨g, 0, none⟩) (n + (k' + 1)) (n + (k' + 1) + cc) := fun g cc => by
              show Value.slice (some ⟨(SN.v nx).den _, 0, none⟩) (n + (k' + 1)) (n + (k' + 1) + SK.den _ ⟨0, some (nx + 1)⟩) = _
              rw [(v_two ρ nx g cc).1, k_two]
            split at ha
            · -- to none
              split at ha
              · injection ha with ha
                injection ha with h1 ha
                injection ha with h2 h3
                subst h1 h2 h3
                obtain ⟨r1, r2⟩ := grow [] 0 rfl (by simp) (fun w' _ => by simp [Builtin.firstCells, dens]) (by omega)
                have hal : ([] ++ news).all (SC.al (lt nx)) = true := hnal
                refine ⟨_, updR ρ nx (two w.heap.size (grownCap w (0 + (k' + 1)) 0 e - (0 + (k' + 1)))), ?_, updR_agr ρ nx _, by omega, two_al nx, h.grow0 hal r2 (((Below.refl _ w).drew).alloc (Nat.le_refl _) _) (Nat.le_refl _)⟩
                rw [valn]
                exact r1
              · cases ha
            · rename_i g o
              split at ha
              · -- to a block with room
                rename_i j g' t' m n' c' cs hfi
                obtain ⟨j', hj, hat, hkey⟩ := findI_at hfi
                rw [Nat.zero_add] at hj
                subst hj
                injection hkey with hkey
                subst hkey
                have hfa := List.all_eq_true.1 h.fl _ (List.mem_of_getElem? hat)
                unfold SF.al at hfa
                rw [Bool.and_eq_true, Bool.and_eq_true] at hfa
                have hnth := nth_map (ρ := ρ) hat
                obtain ⟨cur, fz, c1, cf, c2, c3, c4, c5⟩ : ∃ cur : Array Value, ∃ fz, w.heap[g'.den ρ]? = some (.cells cur t' fz) ∧ Soft fz cur.size ∧ (dens ρ cs).length = n' * m ∧ cur.size = (n' + c'.den ρ) * m ∧ n' + c'.den ρ ≤ maxLen ∧ cur.toList.take (dens ρ cs).length = dens ρ cs := h.st.get j hnth
                split at ha
                · rename_i hq
                  rw [Bool.and_eq_true, Bool.and_eq_true, Bool.and_eq_true] at hq
                  have q1 := Nat.eq_of_beq_eq_true hq.1.1.1
                  have q2 := Nat.eq_of_beq_eq_true hq.1.1.2
                  have q3 := Nat.eq_of_beq_eq_true hq.1.2
                  have q4 := eqO_s (fun _ _ => Nat.eq_of_beq_eq_true) hq.2
                  subst q1 q2
                  have hcap : n + c.den ρ = n' + c'.den ρ := by
                    unfold SK.den
                    rw [q4]
                    split <;> omega
                  split at ha
                  · rename_i hl
                    have hl := Nat.eq_of_beq_eq_true hl
                    subst hl
                    injection ha with ha
                    injection ha with h1 ha
                    injection ha with h2 h3
                    subst h1 h2 h3
                    have hal : (cs ++ news).all (SC.al (lt nx)) = true := by rw [List.all_append, hfa.2, hnal]; rfl
                    have hcl : cs.length = n * i.size := by rw [← dens_len ρ cs]; exact c2
                    by_cases hrm : n + (k' + 1) ≤ n + c.den ρ
                    · -- in place
                      have hfits : 0 + n * i.size + (dens ρ news).length ≤ cur.size := by
                        rw [c3, hnl, ← hcap, Nat.zero_add, ← Nat.add_mul]
                        exact Nat.mul_le_mul_right _ hrm
                      have hst := run_storeCells_soft X.P (g'.den ρ) (0 + n * i.size) t' fz (dens ρ news) 0 cur w c1 cf (by simpa using hfits) (dens_one ρ news)
                      rw [Nat.add_zero] at hst
                      have hls : (List.take (0 + n * i.size) cur.toList ++ dens ρ news ++ List.drop (0 + n * i.size + (dens ρ news).length) cur.toList).length = cur.size := by
                        simp only [List.length_append, List.length_take, List.length_drop, Array.length_toList]
                        omega
                      refine ⟨w.setRow (g'.den ρ) (List.take (0 + n * i.size) cur.toList ++ dens ρ news ++ List.drop (0 + n * i.size + (dens ρ news).length) cur.toList).toArray, updR ρ nx (two (g'.den ρ) (n + c.den ρ - (n + (k' + 1)))), ?_, updR_agr ρ nx _, by omega, two_al nx, h.grow1 hat (g0 := g'.den ρ) (t := t') (m := i.size) (n := n + (k' + 1)) (c := n + c.den ρ - (n + (k' + 1))) rfl hal ?_ ⟨rfl, rfl, rfl, by simp, fun q _ hq => setRow_other w _ q _ (fun e => hq (by rw [e]))⟩ (.inl rfl)⟩
                      · rw [valn, Nat.add_sub_cancel' hrm]
                        exact run_anyR hu hi hx _ 0 n _ hrm hst
                      · refine ⟨_, fz, setRow_heap w _ cur _ t' _ c1, by rw [List.size_toArray, hls]; exact cf, ?_, ?_, ?_, ?_⟩
                        · rw [dens_app, List.length_append, c2, hnl, ← Nat.add_mul]
                        · rw [List.size_toArray, hls, c3, Nat.add_sub_cancel' hrm, hcap]
                        · rw [Nat.add_sub_cancel' hrm, hcap]
                          exact c4
                        · rw [dens_app, ← c5, c2, Nat.zero_add]
                          rw [List.take_append_of_le_length (by simp only [List.length_append, List.length_take, Array.length_toList]; omega)]
                          rw [List.take_of_length_le (by simp only [List.length_append, List.length_take, Array.length_toList]; omega)]
                    · obtain ⟨r1, r2⟩ := grow cs (n + c.den ρ) hfa.2 hcl (fun w' hw => by
                        refine run_firstCells_some (P := X.P) w' i.size n ⟨g'.den ρ, 0, none⟩ n _ (dens ρ cs) (by rw [dens_len, hcl]) (fun j v hv => ?_)
                        unfold dens at hv
                        rw [List.getElem?_map] at hv
                        obtain ⟨y, hy, rfl⟩ := Option.map_eq_some_iff.1 hv
                        rw [add_plain, Nat.zero_add]
                        exact (World.cell?_of_block (a := ⟨g'.den ρ, j, none⟩) (hw _)).trans (cellsF_s (f := .gro g' t' i.size n c' cs) (h.st.get _ hnth) rfl rfl hy)) (by omega)
                      refine ⟨_, updR ρ nx (two w.heap.size (grownCap w (n + (k' + 1)) (n + c.den ρ) t' - (n + (k' + 1)))), ?_, updR_agr ρ nx _, by omega, two_al nx, h.grow1 hat (g0 := g'.den ρ) rfl hal r2 ⟨rfl, rfl, rfl, by simp, fun q hq _ => heap_alloc_old w.drew _ q hq⟩ (.inr (Nat.le_refl _))⟩
                      rw [valn]
                      exact r1
                  · rename_i hlt
                    have hlt := Nat.le_of_ble_eq_true hlt
                    split at ha
                    · rename_i L2 hwr
                      injection ha with ha
                      injection ha with h1 ha
                      injection ha with h2 h3
                      subst h1 h2 h3
                      obtain ⟨w', hst, hh⟩ := wrAt_s h hwr hnal
                      have hle : n + (k' + 1) ≤ n + c.den ρ := by omega
                      refine ⟨w', ρ, ?_, Agr.refl _ _, Nat.le_refl _, hs, hh⟩
                      have hsk : n + (k' + 1) + SK.den ρ ⟨n + c.k - (n + (k' + 1)), c.v⟩ = n + c.den ρ := by
                        have hck : n + (k' + 1) ≤ n + c.k := by omega
                        obtain ⟨ck, cv⟩ := c
                        cases cv with
                        | none => show n + (k' + 1) + (n + ck - (n + (k' + 1))) = n + ck; have : n + (k' + 1) ≤ n + ck := hck; omega
                        | some q => show n + (k' + 1) + (n + ck - (n + (k' + 1)) + ρ q) = n + (ck + ρ q); have : n + (k' + 1) ≤ n + ck := hck; omega
                      show (Builtin.append_ #[t, u] ty #[.slice (some ⟨g'.den ρ, 0, none⟩) n (n + c.den ρ), x.den ρ]).run X.P w = .ok (.slice (some ⟨g'.den ρ, 0, none⟩) (n + (k' + 1)) (n + (k' + 1) + SK.den ρ ⟨n + c.k - (n + (k' + 1)), c.v⟩)) w'
                      rw [hsk]
                      exact run_anyR hu hi hx _ 0 n _ hle hst
                    · cases ha
                  · cases ha
                · cases ha
              · -- to a block
                rename_i j g' t' cs hfi
                obtain ⟨j', hj, hat, hkey⟩ := findI_at hfi
                rw [Nat.zero_add] at hj
                subst hj
                injection hkey with hkey
                subst hkey
                have hfa := List.all_eq_true.1 h.fl _ (List.mem_of_getElem? hat)
                unfold SF.al at hfa
                rw [Bool.and_eq_true] at hfa
                have hnth := nth_map (ρ := ρ) hat
                have hblk : Blk w (g'.den ρ) t' (dens ρ cs).toArray := h.st.get j hnth
                split at ha
                · rename_i ck
                  split at ha
                  · rename_i hl
                    have hl := Nat.le_of_ble_eq_true hl
                    split at ha
                    · rename_i L2 hwr
                      injection ha with ha
                      injection ha with h1 ha
                      injection ha with h2 h3
                      subst h1 h2 h3
                      obtain ⟨w', hst, hh⟩ := wrAt_s h hwr hnal
                      refine ⟨w', ρ, ?_, Agr.refl _ _, Nat.le_refl _, hs, hh⟩
                      show (Builtin.append_ #[t, u] ty #[.slice (some ⟨g'.den ρ, o, none⟩) n (n + ck), x.den ρ]).run X.P w = .ok (.slice (some ⟨g'.den ρ, o, none⟩) (n + (k' + 1)) (n + (k' + 1) + (ck - (k' + 1)))) w'
                      rw [show n + (k' + 1) + (ck - (k' + 1)) = n + ck by omega]
                      exact run_anyR hu hi hx _ o n _ (by omega) hst
                    · cases ha
                  · rename_i hl
                    have hl : ¬ (k' + 1 ≤ ck) := fun e => by
                      rw [Nat.ble_eq_true_of_le e] at hl
                      cases hl
                    split at ha
                    · rename_i hcl
                      have hcl := Nat.eq_of_beq_eq_true hcl
                      injection ha with ha
                      injection ha with h1 ha
                      injection ha with h2 h3
                      subst h1 h2 h3
                      have hal : ((cs.drop o).take (n * i.size) ++ news).all (SC.al (lt nx)) = true := by rw [List.all_append, all_cut hfa.2, hnal]; rfl
                      obtain ⟨r1, r2⟩ := grow ((cs.drop o).take (n * i.size)) (n + ck) (all_cut hfa.2 _ _) hcl (fun w' hw => by
                        refine run_firstCells_some (P := X.P) w' i.size n ⟨g'.den ρ, o, none⟩ n _ (dens ρ ((cs.drop o).take (n * i.size))) (by rw [dens_len, hcl]) (fun j v hv => ?_)
                        unfold dens at hv
                        rw [List.getElem?_map] at hv
                        obtain ⟨y, hy, rfl⟩ := Option.map_eq_some_iff.1 hv
                        rw [add_plain]
                        exact (World.cell?_of_block (a := ⟨g'.den ρ, o + j, none⟩) (hw _)).trans (cellsF_s (f := .blk g' t' cs) (h.st.get _ hnth) rfl rfl (cut_at hy))) (by omega)
                      refine ⟨_, updR ρ nx (two w.heap.size (grownCap w (n + (k' + 1)) (n + ck) e - (n + (k' + 1)))), ?_, updR_agr ρ nx _, by omega, two_al nx, h.grow0 hal r2 (((Below.refl _ w).drew).alloc (Nat.le_refl _) _) (Nat.le_refl _)⟩
                      rw [valn]
                      exact r1
                    · cases ha
                · cases ha
              · cases ha
        · cases ha
      · cases ha
    · cases ha
  · cases ha
end
end Kex
