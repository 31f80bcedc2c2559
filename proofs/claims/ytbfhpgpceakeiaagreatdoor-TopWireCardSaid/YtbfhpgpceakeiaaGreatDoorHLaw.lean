/- Texts of this claim in one: HLaw. What each proves, and on what conditions, its own words say. -/
import Derived.Test.YtbfhpgpceakeiaaGreatDoorHParse
import Derived.Test.YtbfhpgpceakeiaaGreatDoorHPlain
import Derived.Test.YtbfhpgpceakeiaaGreatDoorHNet
import Derived.Test.YtbfhpgpceakeiaaGreatDoorHState
namespace Go.Proofs.YtbfhpgpceakeiaaGreatDoor.Tw
open Go.RowKit Kin Go.Proofs.YtbfhpgpceakeiaaGreatDoor Go.Proofs.YtbfhpgpceakeiaaGreatDoor.C20

theorem codes_inj : ∀ {vs us : List Nat} {X Y : List Bool}, (∀ v ∈ vs, v ≤ 4294967294) → (∀ v ∈ us, v ≤ 4294967294) → vs.length = us.length → Wi.codes vs ++ X = Wi.codes us ++ Y → vs = us
  | [], [], _, _, _, _, _, _ => rfl
  | [], _ :: _, _, _, _, _, hl, _ => by cases hl
  | _ :: _, [], _, _, _, _, hl, _ => by cases hl
  | v :: vs, u :: us, X, Y, hv, hu, hl, h => by
    rw [codes_cons, codes_cons, List.append_assoc, List.append_assoc] at h
    have e := congrArg Gol.gV h
    rw [Gol.gV_code (hv v (List.mem_cons_self ..)), Gol.gV_code (hu u (List.mem_cons_self ..))] at e
    subst e
    rw [codes_inj (fun x hx => hv x (List.mem_cons_of_mem _ hx)) (fun x hx => hu x (List.mem_cons_of_mem _ hx)) (by simpa using hl) (List.append_cancel_left h)]
theorem length_wire (vs : List Nat) (t : List UInt8) : (Wi.wire vs t).length = (Bit.pack (Wi.codes vs)).length + t.length + 4 := by
  unfold Wi.wire Wi.body
  rw [List.length_append, List.length_append, Wi.length_four]
theorem row_wire (vs : List Nat) (t : List UInt8) : ∃ E, Bit.row (Wi.wire vs t) = Wi.codes vs ++ E := by
  obtain ⟨E, hE⟩ := row_body vs t
  exact ⟨E ++ Bit.row (Wi.four (Crc.sum (Wi.body vs t))), by unfold Wi.wire; rw [row_append, hE, List.append_assoc]⟩
/-- the beginning of what was written, if it is written too, is all of it -/
theorem wire_pre {vs us : List Nat} {t t' r : List UInt8} (hv : ∀ v ∈ vs, v ≤ 4294967294) (hu : ∀ v ∈ us, v ≤ 4294967294) (hl : vs.length = us.length) (h1 : vs[vs.length - 1]? = some t.length) (h2 : us[us.length - 1]? = some t'.length) (h : Wi.wire vs t = Wi.wire us t' ++ r) : r = [] := by
  obtain ⟨E, hE⟩ := row_wire vs t
  obtain ⟨E', hE'⟩ := row_wire us t'
  have e : Wi.codes vs ++ E = Wi.codes us ++ (E' ++ Bit.row r) := by rw [← hE, h, row_append, hE', List.append_assoc]
  have e2 := codes_inj hv hu hl e
  subst e2
  rw [h1] at h2
  injection h2 with h2
  have := congrArg List.length h
  rw [List.length_append, length_wire, length_wire, h2] at this
  exact List.length_eq_zero_iff.1 (by omega)
theorem rrN_le {id st fr sz : Int} {n : Nat} (h : Wi.rr id st fr sz n = true) : ∀ v ∈ rrN id st fr sz n, v ≤ 4294967294 := by
  obtain ⟨⟨i1, i2⟩, ⟨p1, p2⟩, ⟨f1, f2⟩, ⟨t1, t2⟩, n1⟩ := rr_of h
  intro v hv
  simp only [rrN, List.mem_cons, List.not_mem_nil, or_false] at hv
  omega
theorem rqN_le {id : Int} {p : ByteArray} {fr to : Int} (h : Wi.rq id p fr to = true) : ∀ v ∈ rqN id p fr to, v ≤ 4294967294 := by
  obtain ⟨⟨i1, i2⟩, ⟨p1, p2⟩, ⟨f1, f2⟩, t1, t2⟩ := rq_of h
  intro v hv
  simp only [rqN, List.mem_cons, List.not_mem_nil, or_false] at hv
  omega
theorem prE_nil : Wi.prE [] ≠ 0 := by decide
theorem pqE_nil : Wi.pqE [] ≠ 0 := by decide
theorem pr_cut {id st fr sz : Int} {t : List UInt8} (h : Wi.rr id st fr sz t.length = true) {k : Nat} (hk : k < (rrL id st fr sz t).length) : Wi.prE ((rrL id st fr sz t).take k) ≠ 0 := by
  intro h0
  obtain ⟨h1, h2⟩ := pr_of h0
  have e : rrL id st fr sz t = (rrL id st fr sz t).take k ++ (rrL id st fr sz t).drop k := (List.take_append_drop _ _).symm
  have hd : (rrL id st fr sz t).drop k ≠ [] := fun h => by
    have := congrArg List.length h
    rw [List.length_drop, List.length_nil] at this
    omega
  generalize (rrL id st fr sz t).drop k = r at *
  generalize (rrL id st fr sz t).take k = b' at *
  rw [← h2] at e
  unfold rrL at e
  rw [if_pos h, if_pos h1] at e
  exact hd (wire_pre (rrN_le h) (rrN_le h1) rfl rfl rfl e)
theorem pq_cut {id : Int} {p : ByteArray} {fr to : Int} (h : Wi.rq id p fr to = true) {k : Nat} (hk : k < (rqL id p fr to).length) : Wi.pqE ((rqL id p fr to).take k) ≠ 0 := by
  intro h0
  obtain ⟨h1, h2⟩ := pq_of h0
  have e : rqL id p fr to = (rqL id p fr to).take k ++ (rqL id p fr to).drop k := (List.take_append_drop _ _).symm
  have hd : (rqL id p fr to).drop k ≠ [] := fun h => by
    have := congrArg List.length h
    rw [List.length_drop, List.length_nil] at this
    omega
  generalize (rqL id p fr to).drop k = r at *
  generalize (rqL id p fr to).take k = b' at *
  rw [← h2] at e
  unfold rqL at e
  rw [if_pos h, if_pos h1] at e
  exact hd (wire_pre (rqN_le h) (rqN_le h1) rfl rfl rfl e)
theorem u8_turn (b : UInt8) {j : Nat} (hj : j < 8) : b ^^^ UInt8.ofNat (2 ^ j) ≠ b := by
  intro h
  have h2 := congrArg (b ^^^ ·) h
  simp only [← UInt8.xor_assoc, UInt8.xor_self, UInt8.zero_xor] at h2
  have key : ∀ j : Fin 8, UInt8.ofNat (2 ^ j.val) ≠ 0 := by decide
  exact key ⟨j, hj⟩ h2
/-- a turned bit turns the sum, or what is told of it -/
theorem paE_flip {b : List UInt8} {kind m i : Nat} (h4 : 4 ≤ b.length) (hs : Crc.sum (Wi.ahead b) = Wi.told b) (hi : i < 8 * b.length) : Wi.paE (Crc.flip b i) kind m ≠ 0 := by
  intro h0
  obtain ⟨_, h2, _⟩ := paE_of h0
  by_cases hlt : i / 8 < b.length - 4
  · have e1 : Wi.ahead (Crc.flip b i) = Crc.flip (Wi.ahead b) i := by
      unfold Wi.ahead Crc.flip
      rw [List.length_set, List.take_set]
      congr 2
      rw [List.getD_eq_getElem?_getD, List.getD_eq_getElem?_getD, List.getElem?_take_of_lt hlt]
    have e2 : Wi.told (Crc.flip b i) = Wi.told b := by
      unfold Wi.told Crc.flip
      rw [List.length_set, List.drop_set_of_lt hlt]
    rw [e1, e2, ← hs] at h2
    refine Crc.sum_flip (Wi.ahead b) i ?_ h2
    unfold Wi.ahead
    rw [List.length_take]
    omega
  · have e1 : Wi.ahead (Crc.flip b i) = Wi.ahead b := by
      unfold Wi.ahead Crc.flip
      rw [List.length_set, List.take_set_of_le (by omega)]
    have hl : (b.drop (b.length - 4)).length = 4 := by rw [List.length_drop]; omega
    have hl' : ((Crc.flip b i).drop ((Crc.flip b i).length - 4)).length = 4 := by rw [List.length_drop, Crc.length_flip]; omega
    rw [e1, hs] at h2
    have h3 : Wi.four (Wi.of4 (b.drop (b.length - 4))) = Wi.four (Wi.of4 ((Crc.flip b i).drop ((Crc.flip b i).length - 4))) := congrArg Wi.four h2
    rw [four_of4 hl, four_of4 hl', Crc.length_flip] at h3
    have hi8 : i / 8 < b.length := by omega
    have h4' := congrArg (·[i / 8 - (b.length - 4)]?) h3
    simp only [List.getElem?_drop] at h4'
    rw [show b.length - 4 + (i / 8 - (b.length - 4)) = i / 8 by omega] at h4'
    unfold Crc.flip at h4'
    rw [List.getElem?_set_self hi8, List.getElem?_eq_getElem hi8] at h4'
    injection h4' with h4'
    rw [List.getD_eq_getElem?_getD, List.getElem?_eq_getElem hi8] at h4'
    exact u8_turn _ (Nat.mod_lt i (by omega)) h4'.symm
theorem pr_turn {id st fr sz : Int} {t : List UInt8} (h : Wi.rr id st fr sz t.length = true) {i : Nat} (hi : i < 8 * (rrL id st fr sz t).length) : Wi.prE (Crc.flip (rrL id st fr sz t) i) ≠ 0 := by
  intro h0
  have e : rrL id st fr sz t = Wi.wire (rrN id st fr sz t.length) t := by unfold rrL; rw [if_pos h]
  obtain ⟨p1, p2, p3⟩ := wire_parts (rrN id st fr sz t.length) t
  refine paE_flip (b := rrL id st fr sz t) (i := i) (by rw [e]; exact p1) (by rw [e, p2, p3]) hi (prE_zero h0).1
theorem pq_turn {id : Int} {p : ByteArray} {fr to : Int} (h : Wi.rq id p fr to = true) {i : Nat} (hi : i < 8 * (rqL id p fr to).length) : Wi.pqE (Crc.flip (rqL id p fr to) i) ≠ 0 := by
  intro h0
  have e : rqL id p fr to = Wi.wire (rqN id p fr to) p.data.toList := by unfold rqL; rw [if_pos h]
  obtain ⟨p1, p2, p3⟩ := wire_parts (rqN id p fr to) p.data.toList
  refine paE_flip (b := rqL id p fr to) (i := i) (by rw [e]; exact p1) (by rw [e, p2, p3]) hi (pqE_zero h0).1
/-- what came of a response's bytes -/
theorem pr_bend {id st fr sz : Int} {t : List UInt8} {K N : Int} (_hK : K = 0 ∨ K = 2 ∨ K = 3 ∨ K = 4) :
    (Wi.rr id st fr sz t.length = true → Wi.prE (Ne.bend K N (rrL id st fr sz t)) = 0 → Wi.prI (Ne.bend K N (rrL id st fr sz t)) = id ∧ Wi.prS (Ne.bend K N (rrL id st fr sz t)) = st ∧ Wi.prF (Ne.bend K N (rrL id st fr sz t)) = fr ∧ Wi.prZ (Ne.bend K N (rrL id st fr sz t)) = sz ∧ Wi.prB (Ne.bend K N (rrL id st fr sz t)) = t) ∧
    (Wi.rr id st fr sz t.length = true → K ≠ 3 → K ≠ 4 → Wi.prE (Ne.bend K N (rrL id st fr sz t)) = 0) ∧ (2 < K → Wi.prE (Ne.bend K N (rrL id st fr sz t)) ≠ 0) := by
  by_cases h : Wi.rr id st fr sz t.length = true
  · obtain ⟨b0, b1, b2, b3, b4, b5⟩ := pr_back h
    have hne : rrL id st fr sz t ≠ [] := fun e => by rw [e] at b0; exact prE_nil b0
    have hpos : 0 < (rrL id st fr sz t).length := List.length_pos_iff.2 hne
    unfold Ne.bend
    rw [if_neg hne]
    by_cases k3 : K = 3
    · have hc := pr_cut h (Ne.rem_lt N hpos)
      rw [if_pos k3]
      exact ⟨fun _ e => absurd e hc, fun _ e => absurd k3 e, fun _ => hc⟩
    · rw [if_neg k3]
      by_cases k4 : K = 4
      · have hc := pr_turn h (Ne.rem_lt N (show 0 < 8 * (rrL id st fr sz t).length by omega))
        rw [if_pos k4]
        exact ⟨fun _ e => absurd e hc, fun _ _ e => absurd k4 e, fun _ => hc⟩
      · rw [if_neg k4]
        exact ⟨fun _ _ => ⟨b1, b2, b3, b4, b5⟩, fun _ _ _ => b0, fun e => by omega⟩
  · have e : Ne.bend K N (rrL id st fr sz t) = [] := by
      unfold Ne.bend rrL
      rw [if_neg h, if_pos rfl]
    rw [e]
    exact ⟨fun e => absurd e h, fun e => absurd e h, fun _ => prE_nil⟩
theorem pq_bend {id : Int} {p : ByteArray} {fr to : Int} {K N : Int} (_hK : K = 0 ∨ K = 2 ∨ K = 3 ∨ K = 4) :
    (Wi.rq id p fr to = true → Wi.pqE (Ne.bend K N (rqL id p fr to)) = 0 → Wi.pqI (Ne.bend K N (rqL id p fr to)) = id ∧ Wi.pqP (Ne.bend K N (rqL id p fr to)) = p ∧ Wi.pqF (Ne.bend K N (rqL id p fr to)) = fr ∧ Wi.pqT (Ne.bend K N (rqL id p fr to)) = to) ∧
    (2 < K → Wi.pqE (Ne.bend K N (rqL id p fr to)) ≠ 0) := by
  by_cases h : Wi.rq id p fr to = true
  · obtain ⟨b0, b1, b2, b3, b4⟩ := pq_back h
    have hne : rqL id p fr to ≠ [] := fun e => by rw [e] at b0; exact pqE_nil b0
    have hpos : 0 < (rqL id p fr to).length := List.length_pos_iff.2 hne
    unfold Ne.bend
    rw [if_neg hne]
    by_cases k3 : K = 3
    · have hc := pq_cut h (Ne.rem_lt N hpos)
      rw [if_pos k3]
      exact ⟨fun _ e => absurd e hc, fun _ => hc⟩
    · rw [if_neg k3]
      by_cases k4 : K = 4
      · have hc := pq_turn h (Ne.rem_lt N (show 0 < 8 * (rqL id p fr to).length by omega))
        rw [if_pos k4]
        exact ⟨fun _ e => absurd e hc, fun _ => hc⟩
      · rw [if_neg k4]
        exact ⟨fun _ _ => ⟨b1, b2, b3, b4⟩, fun e => by omega⟩
  · have e : Ne.bend K N (rqL id p fr to) = [] := by
      unfold Ne.bend rqL
      rw [if_neg h, if_pos rfl]
    rw [e]
    exact ⟨fun e => absurd e h, fun _ => pqE_nil⟩
theorem bend_len (K N : Int) (l : List UInt8) : (Ne.bend K N l).length ≤ l.length := by
  unfold Ne.bend
  split
  · exact Nat.zero_le _
  · split
    · rw [List.length_take]
      exact Nat.min_le_right _ _
    · split
      · rw [Crc.length_flip]
        exact Nat.le_refl _
      · exact Nat.le_refl _
end Go.Proofs.YtbfhpgpceakeiaaGreatDoor.Tw
namespace Kin
open Go Go.RowKit
theorem owns_perm {L L' : List Fac} (h : L.Perm L') : (owns L).Perm (owns L') := by
  induction h with
  | nil => exact .nil
  | cons f _ ih => exact ih.append_left f.own
  | swap f g L =>
    show (g.own ++ (f.own ++ owns L)).Perm (f.own ++ (g.own ++ owns L))
    rw [← List.append_assoc, ← List.append_assoc]
    exact List.perm_append_comm.append_right _
  | trans _ _ h1 h2 => exact h1.trans h2
theorem rds_perm {L L' : List Fac} (h : L.Perm L') {k : Nat} : k ∈ rds L ↔ k ∈ rds L' := by
  rw [mem_rds, mem_rds]
  exact ⟨fun ⟨f, hf, e⟩ => ⟨f, h.mem_iff.1 hf, e⟩, fun ⟨f, hf, e⟩ => ⟨f, h.mem_iff.2 hf, e⟩⟩
theorem Post.perm {w w' : World} {F G G' : List Fac} (h : Post w w' F G) (hp : G.Perm G') : Post w w' F G' :=
  ⟨says_iff.2 fun f hf => says_iff.1 h.all f (hp.mem_iff.2 hf), (owns_perm hp).nodup_iff.1 h.nod, fun k hk ho => h.dis k ((rds_perm hp).2 hk) ((owns_perm hp).mem_iff.2 ho), fun k hk => h.new k ((owns_perm hp).mem_iff.2 hk), fun k hk => h.rnew k ((rds_perm hp).2 hk), h.chg⟩
theorem St.perm {w0 w : World} {P F L L' : List Fac} (h : St w0 P F w L) (hp : L.Perm L') : St w0 P F w L' :=
  ⟨h.ro, says_iff.2 fun f hf => says_iff.1 h.all f (hp.mem_iff.2 hf), (owns_perm hp).nodup_iff.1 h.nod, fun k hk ho => h.dis k ((rds_perm hp).2 hk) ((owns_perm hp).mem_iff.2 ho), fun k hk ho => h.apart k hk ((owns_perm hp).mem_iff.2 ho), fun k hk => h.own k ((owns_perm hp).mem_iff.2 hk), fun k hk => h.rown k ((rds_perm hp).2 hk), h.chg⟩
end Kin
namespace Go.Proofs.YtbfhpgpceakeiaaGreatDoor.Tw
open Go.RowKit Kin Go.Proofs.YtbfhpgpceakeiaaGreatDoor

abbrev nil0 : Value := .slice none 0 0
theorem pre_nilR {w : World} {P : List Fac} {f : Fac} (h : Pre w P [f]) : Pre w P [f, Fac.ownR 88 3 none 0 0 []] :=
  ⟨h.ro, ⟨h.all.1, OwnR.nil _ _ _, trivial⟩, h.nod, h.dis, h.apart⟩
theorem post_nilR {w w' : World} {f : Fac} {G : List Fac} (h : Post w w' [f, Fac.ownR 88 3 none 0 0 []] G) : Post w w' [f] G :=
  ⟨h.all, h.nod, h.dis, h.new, h.rnew, h.chg⟩
theorem post_open {w w' : World} {f : Fac} {F G : List Fac} {e : TypeId} {A : Option Addr} {n c : Nat} {r : List Value} {rows : List (List Value)} (h : Post w w' F (f :: Fac.ownR e 3 A n c (r :: rows) :: G)) :
    ∃ gq rest, A = some ⟨gq, 0, none⟩ ∧ n ≤ c ∧ Post w w' F (f :: Fac.blk gq e (r ++ rows.flatten ++ rest).toArray :: G) := by
  obtain ⟨h1, h2, h3⟩ := (h.all : f.say w' ∧ OwnR w' e 3 A n c (r :: rows) ∧ Says w' G)
  obtain ⟨gq, rest, rfl, hb, hc⟩ := ownR_open1 h2
  exact ⟨gq, rest, rfl, hc, ⟨h1, hb, h3⟩, h.nod, h.dis, h.new, h.rnew, h.chg⟩
def sE (K D : Int) : Int := if K < 0 ∨ 5 ≤ K ∨ D < 0 ∨ 1000 < D then 1 else 0
theorem sE_bad {K D : Int} (h : badF K D) : sE K D = 1 := if_pos h
theorem sE_good {K D : Int} (h : ¬ badF K D) : sE K D = 0 := if_neg h
def GoodQ (K D N : Int) (l : List UInt8) (Q : List Pk) : Prop := ∀ p ∈ Q, p.l = Ne.bend K N l ∧ p.due ≤ 2 * D ∧ (K = 0 ∨ K = 2 ∨ K = 3 ∨ K = 4) ∧ 0 ≤ D ∧ D ≤ 1000
def RetAll (g : Nat) (mk : Int → Value → Array Value) (s K D N : Int) (l : List UInt8) (w : World) (e : Ending) (w' : World) : Prop :=
  e = .returned (.int .i64 (sE K D)) ∧ ∃ s' q F' Q, (s ≤ s' ∧ s' ≤ s + 2) ∧ QIs q F' Q ∧ GoodQ K D N l Q ∧ Post w w' [Fac.blk g 80 (mk s nil0)] (Fac.blk g 80 (mk s' q) :: F')
theorem qis_len {q : Value} {F : List Fac} {Q : List Pk} (h : QIs q F Q) : Q.length ≤ 2 ∧ ∃ A c, q = .slice A Q.length c := by
  match Q, h with
  | [], ⟨A, c, h, _⟩ => exact ⟨by simp, A, c, h⟩
  | [p], ⟨g, c, r, h, _⟩ => exact ⟨by simp, _, c, h⟩
  | [p, p'], ⟨g, c, r, h, _⟩ => exact ⟨by simp, _, c, h⟩
theorem send1_all (g : Nat) (s : Int) (A0 : Option Addr) (n0 c0 : Nat) (A : Option Addr) (n c : Nat) (l : List UInt8) (K D N : Int) (w : World) (hs : 0 ≤ s ∧ s ≤ 1000) (hn0 : n0 ≤ 2) (h0 : -9223372036854775808 ≤ N) (h1 : N ≤ 9223372036854775807) (hn : n = l.length) (hm : n ≤ 2000000)
    (h : Pre w [Fac.byt A l] [Fac.blk g 80 (netC 0 s (.slice A0 n0 c0) nil0)]) :
    Calls Tryz.prog 8 #[.pointer (some ⟨g, 0, none⟩), .int .i64 1, .slice A n c, .agg #[.int .i64 K, .int .i64 D, .int .i64 N]] w (RetAll g (fun s q => netC 0 s (.slice A0 n0 c0) q) s K D N l w) := by
  obtain ⟨hs0, hs1⟩ := hs
  by_cases hb : badF K D
  · refine (send_bad g 1 _ K D N w (by omega) (by omega) hb).mono ?_
    rintro e w' ⟨rfl, b⟩
    refine ⟨(by rw [sE_bad hb]), s, nil0, [], [], ⟨by omega, by omega⟩, ⟨_, _, rfl, rfl⟩, fun p hp => (by cases hp), ?_⟩
    exact (h.start.next b).post [0] rfl
  · have hsE : sE K D = 0 := sE_good hb
    unfold RetAll
    rw [hsE]
    have hb' : 0 ≤ K ∧ K ≤ 4 ∧ 0 ≤ D ∧ D ≤ 1000 := by unfold badF at hb; omega
    obtain ⟨k0, k4, d0, d1⟩ := hb'
    have hk := h.get 0 rfl
    by_cases k1 : K = 1
    · subst k1
      refine (send_lost g 1 _ 0 s A0 none n0 c0 0 0 D N w (by omega) (by omega) hk (by omega) (by omega) ⟨d0, d1⟩).mono ?_
      rintro e w' ⟨rfl, b⟩
      refine ⟨rfl, s, nil0, [], [], ⟨by omega, by omega⟩, ⟨_, _, rfl, rfl⟩, fun p hp => (by cases hp), ?_⟩
      exact (h.start.next b).post [0] rfl
    by_cases k2 : K = 2
    · subst k2
      refine (snd2_1 g 0 s none A0 0 n0 c0 A n c l D N w (by omega) ⟨by omega, by omega⟩ ⟨by omega, by omega⟩ ⟨d0, d1⟩ h0 h1 hn hm (pre_nilR h)).mono ?_
      rintro e w' ⟨⟨⟨A', c'⟩, x1, x2⟩, rfl, post⟩
      obtain ⟨gq, rest, hA, hc, post⟩ := post_open (post_nilR post)
      have hA : A' = some ⟨gq, 0, none⟩ := hA
      subst hA
      refine ⟨rfl, s + 2, .slice (some ⟨gq, 0, none⟩) 2 c', _, [⟨0 + D, s, x1, Ne.bend 2 N l⟩, ⟨0 + 2 * D, s + 1, x2, Ne.bend 2 N l⟩], ⟨by omega, by omega⟩, ⟨gq, c', rest, rfl, hc, rfl⟩, ?_, ?_⟩
      · intro p hp
        simp only [List.mem_cons, List.not_mem_nil, or_false] at hp
        rcases hp with rfl | rfl
        · exact ⟨rfl, by show 0 + D ≤ 2 * D; omega, by omega, d0, d1⟩
        · exact ⟨rfl, by show 0 + 2 * D ≤ 2 * D; omega, by omega, d0, d1⟩
      · exact post.perm (.cons _ (.cons _ (.swap _ _ _)))
    · have hK : K = 0 ∨ K = 3 ∨ K = 4 := by omega
      refine (send1_calls g 0 s none A0 0 n0 c0 A n c l K D N w hk (OwnR.nil _ _ _) (by omega) ⟨by omega, by omega⟩ ⟨by omega, by omega⟩ hK ⟨d0, d1⟩ h0 h1 hn hm (h.getR 0 rfl : Byt w w.heap.size A l ∧ _).1).mono ?_
      intro e w' hr
      obtain ⟨rfl, p, q, F', p1, p2, p3, hq, post⟩ := send_post1 (q0 := netC 0 s (.slice A0 n0 c0) nil0) hr
      refine ⟨rfl, s + 1, q, F', [p], ⟨by omega, by omega⟩, hq, ?_, post_nilR post⟩
      intro p' hp
      rw [List.mem_singleton.1 hp]
      exact ⟨p3, by rw [p1]; omega, by omega, d0, d1⟩
theorem send0_all (g : Nat) (s : Int) (A0 : Option Addr) (n0 c0 : Nat) (A : Option Addr) (n c : Nat) (l : List UInt8) (K D N : Int) (w : World) (hs : 0 ≤ s ∧ s ≤ 1000) (hn0 : n0 ≤ 2) (h0 : -9223372036854775808 ≤ N) (h1 : N ≤ 9223372036854775807) (hn : n = l.length) (hm : n ≤ 2000000)
    (h : Pre w [Fac.byt A l] [Fac.blk g 80 (netC 0 s nil0 (.slice A0 n0 c0))]) :
    Calls Tryz.prog 8 #[.pointer (some ⟨g, 0, none⟩), .int .i64 0, .slice A n c, .agg #[.int .i64 K, .int .i64 D, .int .i64 N]] w (RetAll g (fun s q => netC 0 s q (.slice A0 n0 c0)) s K D N l w) := by
  obtain ⟨hs0, hs1⟩ := hs
  by_cases hb : badF K D
  · refine (send_bad g 0 _ K D N w (by omega) (by omega) hb).mono ?_
    rintro e w' ⟨rfl, b⟩
    refine ⟨(by rw [sE_bad hb]), s, nil0, [], [], ⟨by omega, by omega⟩, ⟨_, _, rfl, rfl⟩, fun p hp => (by cases hp), ?_⟩
    exact (h.start.next b).post [0] rfl
  · have hsE : sE K D = 0 := sE_good hb
    unfold RetAll
    rw [hsE]
    have hb' : 0 ≤ K ∧ K ≤ 4 ∧ 0 ≤ D ∧ D ≤ 1000 := by unfold badF at hb; omega
    obtain ⟨k0, k4, d0, d1⟩ := hb'
    have hk := h.get 0 rfl
    by_cases k1 : K = 1
    · subst k1
      refine (send_lost g 0 _ 0 s none A0 0 0 n0 c0 D N w (by omega) (by omega) hk (by omega) (by omega) ⟨d0, d1⟩).mono ?_
      rintro e w' ⟨rfl, b⟩
      refine ⟨rfl, s, nil0, [], [], ⟨by omega, by omega⟩, ⟨_, _, rfl, rfl⟩, fun p hp => (by cases hp), ?_⟩
      exact (h.start.next b).post [0] rfl
    by_cases k2 : K = 2
    · subst k2
      refine (snd2_0 g 0 s none A0 0 n0 c0 A n c l D N w (by omega) ⟨by omega, by omega⟩ ⟨by omega, by omega⟩ ⟨d0, d1⟩ h0 h1 hn hm (pre_nilR h)).mono ?_
      rintro e w' ⟨⟨⟨A', c'⟩, x1, x2⟩, rfl, post⟩
      obtain ⟨gq, rest, hA, hc, post⟩ := post_open (post_nilR post)
      have hA : A' = some ⟨gq, 0, none⟩ := hA
      subst hA
      refine ⟨rfl, s + 2, .slice (some ⟨gq, 0, none⟩) 2 c', _, [⟨0 + D, s, x1, Ne.bend 2 N l⟩, ⟨0 + 2 * D, s + 1, x2, Ne.bend 2 N l⟩], ⟨by omega, by omega⟩, ⟨gq, c', rest, rfl, hc, rfl⟩, ?_, ?_⟩
      · intro p hp
        simp only [List.mem_cons, List.not_mem_nil, or_false] at hp
        rcases hp with rfl | rfl
        · exact ⟨rfl, by show 0 + D ≤ 2 * D; omega, by omega, d0, d1⟩
        · exact ⟨rfl, by show 0 + 2 * D ≤ 2 * D; omega, by omega, d0, d1⟩
      · exact post.perm (.cons _ (.cons _ (.swap _ _ _)))
    · have hK : K = 0 ∨ K = 3 ∨ K = 4 := by omega
      refine (send0_calls g 0 s none A0 0 n0 c0 A n c l K D N w hk (OwnR.nil _ _ _) (by omega) ⟨by omega, by omega⟩ ⟨by omega, by omega⟩ hK ⟨d0, d1⟩ h0 h1 hn hm (h.getR 0 rfl : Byt w w.heap.size A l ∧ _).1).mono ?_
      intro e w' hr
      obtain ⟨rfl, p, q, F', p1, p2, p3, hq, post⟩ := send_post1 (q0 := netC 0 s nil0 (.slice A0 n0 c0)) hr
      refine ⟨rfl, s + 1, q, F', [p], ⟨by omega, by omega⟩, hq, ?_, post_nilR post⟩
      intro p' hp
      rw [List.mem_singleton.1 hp]
      exact ⟨p3, by rw [p1]; omega, by omega, d0, d1⟩
theorem next1_all (g : Nat) (t s : Int) (qo q : Value) (F' : List Fac) (p : Pk) (Q : List Pk) (w : World) (hq : QIs q F' (p :: Q)) (hd : p.due ≤ t) (h : Pre w [] (Fac.blk g 80 (netC t s qo q) :: F')) :
    Calls Tryz.prog 10 #[.pointer (some ⟨g, 0, none⟩), .int .i64 1] w fun e w' => e = .returned (.tuple #[sl3 p.d, .bool true]) ∧ ∃ q' F'', QIs q' F'' Q ∧ Post w w' (Fac.blk g 80 (netC t s qo q) :: F') (Fac.blk g 80 (netC t s qo q') :: p.fac :: F'') := by
  match Q, hq with
  | [], ⟨gq, c, rest, hqe, hc, hF⟩ =>
    subst hqe hF
    have hb : Blk w g 80 _ := h.get 0 rfl
    have hqb : Blk w gq 88 _ := h.get 1 rfl
    refine (next1_1 g gq c t s p.due p.num p.d.1 p.d.2.1 p.d.2.2 rest qo w hb hqb hc hd).mono ?_
    intro e w' hr
    obtain ⟨rfl, post⟩ := next_post (cs0 := netC t s qo (.slice (some ⟨gq, 0, none⟩) 1 c)) (xs0 := p.row ++ rest) (hb.ne_ hqb (by decide)) hr
    have H := h.start.step [0, 1] post
    exact ⟨rfl, .slice (some ⟨gq, 0, none⟩) 0 c, [], ⟨_, _, rfl, rfl⟩, H.post [0, 2] rfl⟩
  | [p'], ⟨gq, c, rest, hqe, hc, hF⟩ =>
    subst hqe hF
    have hb : Blk w g 80 _ := h.get 0 rfl
    have hqb : Blk w gq 88 _ := h.get 1 rfl
    refine (next1_2 g gq c t s p.due p.num p.d.1 p.d.2.1 p.d.2.2 p'.due p'.num p'.d.1 p'.d.2.1 p'.d.2.2 rest qo w hb hqb hc hd).mono ?_
    intro e w' hr
    obtain ⟨rfl, post⟩ := next_post (cs0 := netC t s qo (.slice (some ⟨gq, 0, none⟩) 2 c)) (xs0 := p.row ++ p'.row ++ rest) (hb.ne_ hqb (by decide)) hr
    have H := h.start.step [0, 1] post
    refine ⟨rfl, .slice (some ⟨gq, 0, none⟩) 1 c, [Fac.blk gq 88 (p'.row ++ (pkR 0 0 none 0 0 ++ rest)).toArray, p'.fac], ⟨_, _, _, rfl, by omega, rfl⟩, ?_⟩
    exact (H.post [0, 1, 2, 3] rfl).perm (.cons _ (.swap _ _ _))
theorem next1_end (g : Nat) (t s : Int) (qo q : Value) (F' : List Fac) (w : World) (hq : QIs q F' []) (h : Blk w g 80 (netC t s qo q)) :
    Calls Tryz.prog 10 #[.pointer (some ⟨g, 0, none⟩), .int .i64 1] w fun e w' => e = .returned (.tuple #[nil0, .bool false]) ∧ Below w.heap.size w w' := by
  obtain ⟨A, c, rfl, _⟩ := hq
  exact next1_none g t s A c qo w h
theorem next0_all (g : Nat) (t s : Int) (qo q : Value) (F' : List Fac) (p : Pk) (Q : List Pk) (w : World) (hq : QIs q F' (p :: Q)) (hd : p.due ≤ t) (h : Pre w [] (Fac.blk g 80 (netC t s q qo) :: F')) :
    Calls Tryz.prog 10 #[.pointer (some ⟨g, 0, none⟩), .int .i64 0] w fun e w' => e = .returned (.tuple #[sl3 p.d, .bool true]) ∧ ∃ q' F'', QIs q' F'' Q ∧ Post w w' (Fac.blk g 80 (netC t s q qo) :: F') (Fac.blk g 80 (netC t s q' qo) :: p.fac :: F'') := by
  match Q, hq with
  | [], ⟨gq, c, rest, hqe, hc, hF⟩ =>
    subst hqe hF
    have hb : Blk w g 80 _ := h.get 0 rfl
    have hqb : Blk w gq 88 _ := h.get 1 rfl
    refine (next0_1 g gq c t s p.due p.num p.d.1 p.d.2.1 p.d.2.2 rest qo w hb hqb hc hd).mono ?_
    intro e w' hr
    obtain ⟨rfl, post⟩ := next_post (cs0 := netC t s (.slice (some ⟨gq, 0, none⟩) 1 c) qo) (xs0 := p.row ++ rest) (hb.ne_ hqb (by decide)) hr
    have H := h.start.step [0, 1] post
    exact ⟨rfl, .slice (some ⟨gq, 0, none⟩) 0 c, [], ⟨_, _, rfl, rfl⟩, H.post [0, 2] rfl⟩
  | [p'], ⟨gq, c, rest, hqe, hc, hF⟩ =>
    subst hqe hF
    have hb : Blk w g 80 _ := h.get 0 rfl
    have hqb : Blk w gq 88 _ := h.get 1 rfl
    refine (next0_2 g gq c t s p.due p.num p.d.1 p.d.2.1 p.d.2.2 p'.due p'.num p'.d.1 p'.d.2.1 p'.d.2.2 rest qo w hb hqb hc hd).mono ?_
    intro e w' hr
    obtain ⟨rfl, post⟩ := next_post (cs0 := netC t s (.slice (some ⟨gq, 0, none⟩) 2 c) qo) (xs0 := p.row ++ p'.row ++ rest) (hb.ne_ hqb (by decide)) hr
    have H := h.start.step [0, 1] post
    refine ⟨rfl, .slice (some ⟨gq, 0, none⟩) 1 c, [Fac.blk gq 88 (p'.row ++ (pkR 0 0 none 0 0 ++ rest)).toArray, p'.fac], ⟨_, _, _, rfl, by omega, rfl⟩, ?_⟩
    exact (H.post [0, 1, 2, 3] rfl).perm (.cons _ (.swap _ _ _))
theorem next0_end (g : Nat) (t s : Int) (qo q : Value) (F' : List Fac) (w : World) (hq : QIs q F' []) (h : Blk w g 80 (netC t s q qo)) :
    Calls Tryz.prog 10 #[.pointer (some ⟨g, 0, none⟩), .int .i64 0] w fun e w' => e = .returned (.tuple #[nil0, .bool false]) ∧ Below w.heap.size w w' := by
  obtain ⟨A, c, rfl, _⟩ := hq
  exact next0_none g t s A c qo w h
theorem tick_s (g : Nat) (t s : Int) (q0 q1 : Value) (w : World) (h0 : 0 ≤ t) (h1 : t ≤ 1000000) (h : Pre w [] [Fac.blk g 80 (netC t s q0 q1)]) :
    Calls Tryz.prog 9 #[.pointer (some ⟨g, 0, none⟩)] w (Ret (fun _ : Unit => .int .i64 0) [Fac.blk g 80 (netC t s q0 q1)] (fun _ => [Fac.blk g 80 (netC (t + 1) s q0 q1)]) w) := by
  refine (netTick_calls g t s q0 q1 w (h.get 0 rfl) h0 h1).mono ?_
  rintro e w' ⟨rfl, b, c⟩
  refine ⟨(), rfl, post_mk ⟨b, trivial⟩ (by simp [owns]) rfl (fun k hk => .inl (by simpa [owns] using hk)) c ?_⟩
  rintro k _ rfl
  simp [owns]
end Go.Proofs.YtbfhpgpceakeiaaGreatDoor.Tw
namespace Go.Proofs.YtbfhpgpceakeiaaGreatDoor.Tw
open Go.RowKit Kin Go.Proofs.YtbfhpgpceakeiaaGreatDoor Go.Proofs.YtbfhpgpceakeiaaGreatDoor.C20

theorem Post.of_own8 {w w' : World} {A : Option Addr} {n c : Nat} {l : List UInt8} (o : Own8 w' 5 A n c l) (f : ∀ k, blkOf A = some k → w.heap.size ≤ k) (b : Below w.heap.size w w') : Post w w' [] [F8 (A, n, c) l] := post_own8 o f b
theorem own8_capT {w : World} {e : TypeId} {A : Option Addr} {n c : Nat} {l : List UInt8} (h : Own8 w e A n c l) : n ≤ c := by
  rcases h.2.2 with ⟨hv, _⟩ | ⟨g, cap, cur, hv, _, _, h1, _⟩
  · injection hv with _ h2 h3; omega
  · injection hv with _ _ h3; omega
theorem rqL_lenT {p : ByteArray} {id fr to : Int} : (rqL id p fr to).length ≤ 1000 := by
  by_cases h : Wi.rq id p fr to = true
  · obtain ⟨_, ⟨p1, p2⟩, _⟩ := rq_of h
    unfold rqL
    rw [if_pos h]
    unfold Wi.wire Wi.body
    rw [List.length_append, List.length_append, Bit.length_pack, Wi.length_four]
    have := codes_len (rqN id p fr to) (by
      obtain ⟨⟨i1, i2⟩, ⟨p1, p2⟩, ⟨f1, f2⟩, t1, t2⟩ := rq_of h
      intro v hv
      simp only [rqN, List.mem_cons, List.not_mem_nil, or_false] at hv
      omega)
    have e : (rqN id p fr to).length = 5 := rfl
    have e2 : p.data.toList.length = p.size := rfl
    omega
  · unfold rqL; rw [if_neg h]; simp
theorem rrL_lenT {id st fr sz : Int} {t : List UInt8} : (rrL id st fr sz t).length ≤ 1000 + t.length := by
  by_cases h : Wi.rr id st fr sz t.length = true
  · unfold rrL
    rw [if_pos h]
    unfold Wi.wire Wi.body
    rw [List.length_append, List.length_append, Bit.length_pack, Wi.length_four]
    have := codes_len (rrN id st fr sz t.length) (by
      obtain ⟨⟨i1, i2⟩, ⟨p1, p2⟩, ⟨f1, f2⟩, ⟨t1, t2⟩, n1⟩ := rr_of h
      intro v hv
      simp only [rrN, List.mem_cons, List.not_mem_nil, or_false] at hv
      omega)
    have e : (rrN id st fr sz t.length).length = 6 := rfl
    omega
  · unfold rrL; rw [if_neg h]; simp
def AwakeOK (GA GB : Fac) : Prop := ∀ w, Pre w [GA, GB] [] → Calls Tryz.prog 4 #[] w fun e w' => e = .returned (.bool true) ∧ Below w.heap.size w w'
set_option maxRecDepth 100000 in
set_option maxHeartbeats 8000000 in
theorem topWire_big (GA GB : Fac) (haw : AwakeOK GA GB) (id st fr sz : Int) (A A0 : Option Addr) (n c : Nat) (l : List UInt8) (qi : Int) (qp : ByteArray) (qf qt : Int) (K D N : Int) (w : World) (hbig : 600 < n ∨ 600 < qp.size)
    (h : Pre w [Fac.byt A0 l, GA, GB] []) :
    Calls Tryz.prog 3 #[resV id st fr sz A n c, reqV qi qp qf qt, .agg #[.int .i64 K, .int .i64 D, .int .i64 N]] w fun e w' => e = .returned (.bool true) ∧ Below w.heap.size w w' := by
  obtain ⟨gr, hgr⟩ : ∃ x, w.heap.size = x := ⟨_, rfl⟩
  obtain ⟨gq, hgq⟩ : ∃ x, (w.alloc (.cells #[.int .i64 id, .int .i64 st, .int .i64 fr, .int .i64 sz, .slice A n c] 25)).heap.size = x := ⟨_, rfl⟩
  obtain ⟨gf, hgf⟩ : ∃ x, ((w.alloc (.cells #[.int .i64 id, .int .i64 st, .int .i64 fr, .int .i64 sz, .slice A n c] 25)).alloc (.cells #[.int .i64 qi, .string qp, .int .i64 qf, .int .i64 qt] 27)).heap.size = x := ⟨_, rfl⟩
  have H3 : Hid (St w [Fac.byt A0 l, GA, GB] [] (((w.alloc (.cells #[.int .i64 id, .int .i64 st, .int .i64 fr, .int .i64 sz, .slice A n c] 25)).alloc (.cells #[.int .i64 qi, .string qp, .int .i64 qf, .int .i64 qt] 27)).alloc (.cells #[.int .i64 K, .int .i64 D, .int .i64 N] 29)) [Fac.blk gf 29 #[.int .i64 K, .int .i64 D, .int .i64 N], Fac.blk gq 27 #[.int .i64 qi, .string qp, .int .i64 qf, .int .i64 qt], Fac.blk gr 25 #[.int .i64 id, .int .i64 st, .int .i64 fr, .int .i64 sz, .slice A n c]]) := ((h.start.alloc 25 #[.int .i64 id, .int .i64 st, .int .i64 fr, .int .i64 sz, .slice A n c] hgr).alloc 27 #[.int .i64 qi, .string qp, .int .i64 qf, .int .i64 qt] hgq).alloc 29 #[.int .i64 K, .int .i64 D, .int .i64 N] hgf
  have HAW := hide haw
  have s1 : gq = gr + 1 := by rw [← hgq, World.size_alloc, hgr]
  have s2 : gf = gr + 1 + 1 := by rw [← hgf, World.size_alloc, hgq, s1]
  subst s1 s2
  have HG := hide hgr
  clear h hgq hgf
  have c0 : (((w.alloc (.cells #[.int .i64 id, .int .i64 st, .int .i64 fr, .int .i64 sz, .slice A n c] 25)).alloc (.cells #[.int .i64 qi, .string qp, .int .i64 qf, .int .i64 qt] 27)).alloc (.cells #[.int .i64 K, .int .i64 D, .int .i64 N] 29)).cell? ⟨gr, 4, none⟩ = some (.slice A n c) := (H3.out.get 2 rfl : Blk _ gr 25 _).cell 4
  have c1 : (((w.alloc (.cells #[.int .i64 id, .int .i64 st, .int .i64 fr, .int .i64 sz, .slice A n c] 25)).alloc (.cells #[.int .i64 qi, .string qp, .int .i64 qf, .int .i64 qt] 27)).alloc (.cells #[.int .i64 K, .int .i64 D, .int .i64 N] 29)).cell? ⟨gr + 1, 1, none⟩ = some (.string qp) := (H3.out.get 1 rfl : Blk _ (gr + 1) 27 _).cell 1
  by_cases h1 : 600 < n
  · have d1 : decide ((600 : Int) < (n : Int)) = true := by simp; omega
    clear hbig
    go_enter Tryz.func3, Tryz.ntmps3
    go_wp2_with fail
    refine (HAW.out _ (H3.out.pre [1, 2] [] [] rfl rfl)).mono ?_
    rintro e w1 ⟨rfl, b⟩
    go_wp2
    go_ret
    exact ⟨rfl, (H3.out.next b).post [] rfl |>.below rfl⟩
  · have d1 : decide ((600 : Int) < (n : Int)) = false := by simp; omega
    have d2 : decide ((600 : Int) < (qp.size : Int)) = true := by simp; omega
    clear hbig
    go_enter Tryz.func3, Tryz.ntmps3
    go_wp2_with fail
    refine (HAW.out _ (H3.out.pre [1, 2] [] [] rfl rfl)).mono ?_
    rintro e w1 ⟨rfl, b⟩
    go_wp2
    go_ret
    exact ⟨rfl, (H3.out.next b).post [] rfl |>.below rfl⟩
end Go.Proofs.YtbfhpgpceakeiaaGreatDoor.Tw
namespace Go.Proofs.YtbfhpgpceakeiaaGreatDoor.Tw
open Go.RowKit Kin Go.Proofs.YtbfhpgpceakeiaaGreatDoor

/-- a queue, and what it owns, as one fact -/
abbrev QF (o : List Nat) (q : Value) (Q : List Pk) : Fac := Fac.pack o [] (fun F' => QIs q F' Q)
theorem qis_rds {q : Value} {F : List Fac} {Q : List Pk} (h : QIs q F Q) : rds F = [] := by
  match Q, h with
  | [], ⟨_, _, _, h⟩ => subst h; rfl
  | [_], ⟨_, _, _, _, _, h⟩ => subst h; simp [rds]
  | [_, _], ⟨_, _, _, _, _, h⟩ => subst h; simp [rds]
theorem post_packQ {w w' : World} {F F' : List Fac} {f : Fac} {q : Value} {Q : List Pk} (hq : QIs q F' Q) (h : Post w w' F (f :: F')) : Post w w' F [f, QF (owns F') q Q] := by
  have hr := qis_rds hq
  have e1 : owns [f, QF (owns F') q Q] = owns (f :: F') := by simp [owns]
  have e2 : rds [f, QF (owns F') q Q] = rds (f :: F') := by simp [rds, hr]
  refine ⟨⟨h.all.1, ⟨F', hq, rfl, hr, h.all.2⟩, trivial⟩, by rw [e1]; exact h.nod, fun k hk => by rw [e1]; rw [e2] at hk; exact h.dis k hk, fun k hk => by rw [e1] at hk; exact h.new k hk, fun k hk => by rw [e2] at hk; exact h.rnew k hk, h.chg⟩
theorem post_packQ2 {w w' : World} {F F' : List Fac} {f g : Fac} {q : Value} {Q : List Pk} (hq : QIs q F' Q) (h : Post w w' F (f :: g :: F')) : Post w w' F [f, g, QF (owns F') q Q] := by
  have hr := qis_rds hq
  have e1 : owns [f, g, QF (owns F') q Q] = owns (f :: g :: F') := by simp [owns]
  have e2 : rds [f, g, QF (owns F') q Q] = rds (f :: g :: F') := by simp [rds, hr]
  refine ⟨⟨h.all.1, h.all.2.1, ⟨F', hq, rfl, hr, h.all.2.2⟩, trivial⟩, by rw [e1]; exact h.nod, fun k hk => by rw [e1]; rw [e2] at hk; exact h.dis k hk, fun k hk => by rw [e1] at hk; exact h.new k hk, fun k hk => by rw [e2] at hk; exact h.rnew k hk, h.chg⟩
/-- opened -/
theorem pre_openQ {w : World} {f : Fac} {o : List Nat} {q : Value} {Q : List Pk} (h : Pre w [] [f, QF o q Q]) : ∃ F', QIs q F' Q ∧ owns F' = o ∧ Pre w [] (f :: F') ∧ ∀ {w' : World} {G : List Fac}, Post w w' (f :: F') G → Post w w' [f, QF o q Q] G := by
  obtain ⟨h1, ⟨F', hq, ho, hr, hs⟩, _⟩ := (h.all : f.say w ∧ (∃ L, QIs q L Q ∧ owns L = o ∧ rds L = [] ∧ Says w L) ∧ True)
  have e1 : owns (f :: F') = owns [f, QF o q Q] := by simp [owns, ho]
  have e2 : rds (f :: F') = rds [f, QF o q Q] := by simp [rds, hr]
  refine ⟨F', hq, ho, ⟨h.ro, ⟨h1, hs⟩, by rw [e1]; exact h.nod, fun k hk => by rw [e1]; rw [e2] at hk; exact h.dis k hk, fun k hk => by rw [e1]; exact h.apart k hk⟩, fun p => ?_⟩
  exact ⟨p.all, p.nod, p.dis, fun k hk => by rw [← e1]; exact p.new k hk, fun k hk => by rw [← e1, ← e2]; exact p.rnew k hk, by rw [← e1]; exact p.chg⟩
def slLen (q : Value) (k : Nat) : Prop := k ≤ 2 ∧ ∃ A c, q = .slice A k c
def RetQA (g : Nat) (mk : Int → Value → Array Value) (s K D N : Int) (l : List UInt8) (w : World) (e : Ending) (w' : World) : Prop :=
  e = .returned (.int .i64 (sE K D)) ∧ ∃ s' q o Q, (s ≤ s' ∧ s' ≤ s + 2) ∧ slLen q Q.length ∧ GoodQ K D N l Q ∧ Post w w' [Fac.blk g 80 (mk s nil0)] [Fac.blk g 80 (mk s' q), QF o q Q]
theorem retQA {g : Nat} {mk : Int → Value → Array Value} {s K D N : Int} {l : List UInt8} {w w' : World} {e : Ending} (h : RetAll g mk s K D N l w e w') : RetQA g mk s K D N l w e w' := by
  obtain ⟨he, s', q, F', Q, hs, hq, hg, hp⟩ := h
  exact ⟨he, s', q, owns F', Q, hs, qis_len hq, hg, post_packQ hq hp⟩
/-- bytes of one's own are read -/
theorem pre_byt {w : World} {A : Option Addr} {n c : Nat} {l : List UInt8} {F : List Fac} (h : Pre w [F8 (A, n, c) l] F) : Pre w [Fac.byt A l] F := by
  have o : Own8 w 5 A n c l := h.ro.1
  refine ⟨⟨⟨o.byt, o.lt⟩, trivial⟩, h.all, h.nod, h.dis, fun k hk => h.apart k ?_⟩
  rcases hk with hk | hk
  · simp [owns] at hk
  · exact .inl (by simpa [owns, rds] using hk)
theorem next1_q (g : Nat) (t s : Int) (qo q : Value) (o : List Nat) (p : Pk) (Q : List Pk) (w : World) (hd : p.due ≤ t) (h : Pre w [] [Fac.blk g 80 (netC t s qo q), QF o q (p :: Q)]) :
    Calls Tryz.prog 10 #[.pointer (some ⟨g, 0, none⟩), .int .i64 1] w fun e w' => e = .returned (.tuple #[sl3 p.d, .bool true]) ∧ ∃ q' o', slLen q' Q.length ∧ Post w w' [Fac.blk g 80 (netC t s qo q), QF o q (p :: Q)] [Fac.blk g 80 (netC t s qo q'), p.fac, QF o' q' Q] := by
  obtain ⟨F', hq, _, h', hb⟩ := pre_openQ h
  refine (next1_all g t s qo q F' p Q w hq hd h').mono ?_
  rintro e w' ⟨rfl, q', F'', hq', hp⟩
  exact ⟨rfl, q', owns F'', qis_len hq', hb (post_packQ2 hq' hp)⟩
theorem next1_e (g : Nat) (t s : Int) (qo q : Value) (o : List Nat) (w : World) (h : Pre w [] [Fac.blk g 80 (netC t s qo q), QF o q []]) :
    Calls Tryz.prog 10 #[.pointer (some ⟨g, 0, none⟩), .int .i64 1] w fun e w' => e = .returned (.tuple #[nil0, .bool false]) ∧ Below w.heap.size w w' := by
  obtain ⟨F', hq, _, h', hb⟩ := pre_openQ h
  exact next1_end g t s qo q F' w hq (h.get 0 rfl)
theorem next0_q (g : Nat) (t s : Int) (qo q : Value) (o : List Nat) (p : Pk) (Q : List Pk) (w : World) (hd : p.due ≤ t) (h : Pre w [] [Fac.blk g 80 (netC t s q qo), QF o q (p :: Q)]) :
    Calls Tryz.prog 10 #[.pointer (some ⟨g, 0, none⟩), .int .i64 0] w fun e w' => e = .returned (.tuple #[sl3 p.d, .bool true]) ∧ ∃ q' o', slLen q' Q.length ∧ Post w w' [Fac.blk g 80 (netC t s q qo), QF o q (p :: Q)] [Fac.blk g 80 (netC t s q' qo), p.fac, QF o' q' Q] := by
  obtain ⟨F', hq, _, h', hb⟩ := pre_openQ h
  refine (next0_all g t s qo q F' p Q w hq hd h').mono ?_
  rintro e w' ⟨rfl, q', F'', hq', hp⟩
  exact ⟨rfl, q', owns F'', qis_len hq', hb (post_packQ2 hq' hp)⟩
theorem next0_e (g : Nat) (t s : Int) (qo q : Value) (o : List Nat) (w : World) (h : Pre w [] [Fac.blk g 80 (netC t s q qo), QF o q []]) :
    Calls Tryz.prog 10 #[.pointer (some ⟨g, 0, none⟩), .int .i64 0] w fun e w' => e = .returned (.tuple #[nil0, .bool false]) ∧ Below w.heap.size w w' := by
  obtain ⟨F', hq, _, h', hb⟩ := pre_openQ h
  exact next0_end g t s qo q F' w hq (h.get 0 rfl)
end Go.Proofs.YtbfhpgpceakeiaaGreatDoor.Tw
namespace Go.Proofs.YtbfhpgpceakeiaaGreatDoor.Tw
open Go.RowKit Kin Go.Proofs.YtbfhpgpceakeiaaGreatDoor

def CurIs (good : Pk → Prop) (v : Value) (b : Bool) (F : List Fac) : Prop := (b = true ∧ ∃ p, good p ∧ v = sl3 p.d ∧ F = [p.fac]) ∨ (b = false ∧ F = [])
abbrev CF (o : List Nat) (good : Pk → Prop) (v : Value) (b : Bool) : Fac := Fac.pack o [] (CurIs good v b)
theorem st_openC {w0 w : World} {P F L : List Fac} {f : Fac} {o : List Nat} {good : Pk → Prop} {v : Value} (h : St w0 P F w (f :: CF o good v true :: L)) : ∃ p, good p ∧ v = sl3 p.d ∧ St w0 P F w (f :: p.fac :: L) := by
  obtain ⟨h1, ⟨G, hc, ho, hr, hs⟩, h3⟩ := (h.all : f.say w ∧ (∃ L, CurIs good v true L ∧ owns L = o ∧ rds L = [] ∧ Says w L) ∧ Says w L)
  rcases hc with ⟨_, p, hg, hv, hG⟩ | ⟨hb, _⟩
  · subst hG
    have e0 : (p.fac).own = o := by simpa [owns] using ho
    have e1 : owns (f :: p.fac :: L) = owns (f :: CF o good v true :: L) := by
      show f.own ++ (p.fac.own ++ owns L) = f.own ++ (o ++ owns L)
      rw [e0]
    have e2 : rds (f :: p.fac :: L) = rds (f :: CF o good v true :: L) := by simp [rds]
    exact ⟨p, hg, hv, h.ro, ⟨h1, hs.1, h3⟩, by rw [e1]; exact h.nod, fun k hk => by rw [e1]; rw [e2] at hk; exact h.dis k hk, fun k hk => by rw [e1]; exact h.apart k hk, fun k hk => by rw [e1] at hk; exact h.own k hk, fun k hk => by rw [e2] at hk; exact h.rown k hk, h.chg⟩
  · cases hb
def bN1 (b : Bool) : Nat := if b then 1 else 0
def qn (x : Option Value) : Nat := match x with
  | some (.slice _ n _) => n
  | _ => 0
def bn (v : Value) : Nat := match v with
  | .bool true => 1
  | _ => 0
theorem meas {q q' : Value} {k k' : Nat} {b : Bool} (h' : slLen q' k') (h : slLen q k) (hl : k' + bN1 b = k) : qn (some q') + bn (.bool b) < qn (some q) + bn (.bool true) := by
  obtain ⟨_, A, c, rfl⟩ := h
  obtain ⟨_, A', c', rfl⟩ := h'
  show k' + bn (.bool b) < k + 1
  cases b with
  | true => show k' + 1 < k + 1; have : k' + 1 = k := hl; omega
  | false => show k' + 0 < k + 1; have : k' + 0 = k := hl; omega
def AllG (good : Pk → Prop) (t : Int) (Q : List Pk) : Prop := ∀ p ∈ Q, good p ∧ p.due ≤ t
def RetN1 (g : Nat) (t s : Int) (qo q : Value) (o : List Nat) (good : Pk → Prop) (Q : List Pk) (w : World) (e : Ending) (w' : World) : Prop :=
  ∃ v b o1 q' o' Q', e = .returned (.tuple #[v, .bool b]) ∧ AllG good t Q' ∧ slLen q' Q'.length ∧ Q'.length + bN1 b = Q.length ∧ (b = false → Q' = []) ∧ Post w w' [Fac.blk g 80 (netC t s qo q), QF o q Q] [Fac.blk g 80 (netC t s qo q'), CF o1 good v b, QF o' q' Q']
theorem next1_any (g : Nat) (t s : Int) (qo q : Value) (o : List Nat) (good : Pk → Prop) (Q : List Pk) (w : World) (hg : AllG good t Q) (hl : slLen q Q.length) (h : Pre w [] [Fac.blk g 80 (netC t s qo q), QF o q Q]) :
    Calls Tryz.prog 10 #[.pointer (some ⟨g, 0, none⟩), .int .i64 1] w (RetN1 g t s qo q o good Q w) := by
  cases Q with
  | nil =>
    refine (next1_e g t s qo q o w h).mono ?_
    rintro e w' ⟨rfl, b⟩
    have H := h.start.next b
    refine ⟨nil0, false, [], q, o, [], rfl, hg, hl, rfl, fun _ => rfl, ?_⟩
    have hp := H.post [0, 1] rfl
    exact ⟨⟨hp.all.1, ⟨[], .inr ⟨rfl, rfl⟩, rfl, rfl, trivial⟩, hp.all.2.1, trivial⟩, hp.nod, hp.dis, hp.new, hp.rnew, hp.chg⟩
  | cons p Q =>
    obtain ⟨hp, hd⟩ := hg p (List.mem_cons_self ..)
    refine (next1_q g t s qo q o p Q w hd h).mono ?_
    rintro e w' ⟨rfl, q', o', hl', post⟩
    refine ⟨sl3 p.d, true, p.fac.own, q', o', Q, rfl, fun x hx => hg x (List.mem_cons_of_mem _ hx), hl', rfl, fun e => (by cases e), ?_⟩
    exact ⟨⟨post.all.1, ⟨[p.fac], .inl ⟨rfl, p, hp, rfl, rfl⟩, by simp [owns], by simp [rds], ⟨post.all.2.1, trivial⟩⟩, post.all.2.2.1, trivial⟩, post.nod, post.dis, post.new, post.rnew, post.chg⟩
def RetN0 (g : Nat) (t s : Int) (qo q : Value) (o : List Nat) (good : Pk → Prop) (Q : List Pk) (w : World) (e : Ending) (w' : World) : Prop :=
  ∃ v b o1 q' o' Q', e = .returned (.tuple #[v, .bool b]) ∧ AllG good t Q' ∧ slLen q' Q'.length ∧ Q'.length + bN1 b = Q.length ∧ (b = false → Q' = []) ∧ Post w w' [Fac.blk g 80 (netC t s q qo), QF o q Q] [Fac.blk g 80 (netC t s q' qo), CF o1 good v b, QF o' q' Q']
theorem next0_any (g : Nat) (t s : Int) (qo q : Value) (o : List Nat) (good : Pk → Prop) (Q : List Pk) (w : World) (hg : AllG good t Q) (hl : slLen q Q.length) (h : Pre w [] [Fac.blk g 80 (netC t s q qo), QF o q Q]) :
    Calls Tryz.prog 10 #[.pointer (some ⟨g, 0, none⟩), .int .i64 0] w (RetN0 g t s qo q o good Q w) := by
  cases Q with
  | nil =>
    refine (next0_e g t s qo q o w h).mono ?_
    rintro e w' ⟨rfl, b⟩
    have H := h.start.next b
    refine ⟨nil0, false, [], q, o, [], rfl, hg, hl, rfl, fun _ => rfl, ?_⟩
    have hp := H.post [0, 1] rfl
    exact ⟨⟨hp.all.1, ⟨[], .inr ⟨rfl, rfl⟩, rfl, rfl, trivial⟩, hp.all.2.1, trivial⟩, hp.nod, hp.dis, hp.new, hp.rnew, hp.chg⟩
  | cons p Q =>
    obtain ⟨hp, hd⟩ := hg p (List.mem_cons_self ..)
    refine (next0_q g t s qo q o p Q w hd h).mono ?_
    rintro e w' ⟨rfl, q', o', hl', post⟩
    refine ⟨sl3 p.d, true, p.fac.own, q', o', Q, rfl, fun x hx => hg x (List.mem_cons_of_mem _ hx), hl', rfl, fun e => (by cases e), ?_⟩
    exact ⟨⟨post.all.1, ⟨[p.fac], .inl ⟨rfl, p, hp, rfl, rfl⟩, by simp [owns], by simp [rds], ⟨post.all.2.1, trivial⟩⟩, post.all.2.2.1, trivial⟩, post.nod, post.dis, post.new, post.rnew, post.chg⟩
end Go.Proofs.YtbfhpgpceakeiaaGreatDoor.Tw
