/- The live question of the boxes' statements: it answers true. No conditions. -/
import Derived.Test.YtjofojjinoipaaaBoxWriteRef
import Derived.Test.YtjofojjinoipaaaBoxParseRef
import Derived.Test.YtjofojjinoipaaaBoxSame
import Derived.Lib.SlBytesConst
namespace Go.Proofs.Ytjofojjinoipaaa
open Go.RowKit Kin

abbrev sHead : ByteArray := ⟨#[104, 101, 97, 100]⟩
abbrev sDa : ByteArray := ⟨#[100, 97, 49, 97]⟩
def live : List Bx.Box := [(sHead, [120]), (sDa, [])]
def liveB : List UInt8 := [0, 0, 0, 9, 104, 101, 97, 100, 120, 0, 0, 0, 8, 100, 97, 49, 97]
theorem live_wr : wrL live = liveB ∧ wrE live = 0 := by
  have h : live.all Bx.rightB = true := by decide +kernel
  obtain ⟨h1, h2⟩ := wr_yes h
  exact ⟨h1.trans (by decide +kernel), h2⟩
theorem live_pa : Bx.even liveB = true ∧ Bx.boxes liveB = live := by
  have h : live.all Bx.rightB = true := by decide +kernel
  have e : Bx.file live = liveB := by decide +kernel
  have := Bx.boxes_file h
  rw [e] at this
  exact ⟨this.2, this.1⟩

set_option maxRecDepth 100000 in
set_option maxHeartbeats 2000000 in
theorem alive16_calls (w : World) : Calls Try.prog 8 #[] w (RetBool w true) := by
  have bel1 : Below w.heap.size w ((w.alloc (.cells #[.int .u8 120] 5 (1, 2))).alloc (.cells #[.string sHead, .slice (some ⟨w.heap.size, 0, none⟩) 1 1, .string sDa, .slice none 0 0] 36)) := ((Below.refl _ _).alloc (Nat.le_refl _) _).alloc (by simp) _
  have bx : Bx.Boxes ((w.alloc (.cells #[.int .u8 120] 5 (1, 2))).alloc (.cells #[.string sHead, .slice (some ⟨w.heap.size, 0, none⟩) 1 1, .string sDa, .slice none 0 0] 36)) ((w.alloc (.cells #[.int .u8 120] 5 (1, 2))).alloc (.cells #[.string sHead, .slice (some ⟨w.heap.size, 0, none⟩) 1 1, .string sDa, .slice none 0 0] 36)).heap.size (some ⟨w.heap.size + 1, 0, none⟩) [⟨sHead, some ⟨w.heap.size, 0, none⟩, 1, 1, [120]⟩, ⟨sDa, none, 0, 0, []⟩] := by
    have k := Blk.new (w.alloc (.cells #[.int .u8 120] 5 (1, 2))) 36 #[.string sHead, .slice (some ⟨w.heap.size, 0, none⟩) 1 1, .string sDa, .slice none 0 0]
    have k0 := (Byt.new w #[.int .u8 120] 5 (1, 2) [120] rfl).below (((Below.refl (w.heap.size + 1) (w.alloc (.cells #[.int .u8 120] 5 (1, 2)))).alloc (by simp) (.cells #[.string sHead, .slice (some ⟨w.heap.size, 0, none⟩) 1 1, .string sDa, .slice none 0 0] 36)))
    rw [World.size_alloc] at k
    refine ⟨fun _ => ⟨w.heap.size + 1, 0, rfl, k.lt, fun i row hi => ?_⟩, fun x hx => ?_⟩
    · rcases i with _ | _ | i
      · simp at hi; subst hi
        refine ⟨rfl, fun j v hj => ?_⟩
        rcases j with _ | _ | j
        · simp [Bx.Cel.row] at hj; subst hj; exact k.cell 0
        · simp [Bx.Cel.row] at hj; subst hj; exact k.cell 1
        · simp [Bx.Cel.row] at hj
      · simp at hi; subst hi
        refine ⟨rfl, fun j v hj => ?_⟩
        rcases j with _ | _ | j
        · simp [Bx.Cel.row] at hj; subst hj; exact k.cell 2
        · simp [Bx.Cel.row] at hj; subst hj; exact k.cell 3
        · simp [Bx.Cel.row] at hj
      · simp at hi
    · simp at hx
      rcases hx with rfl | rfl
      · exact ⟨rfl, by simp [maxLen], k0.more (by simp)⟩
      · exact ⟨rfl, by simp, Byt.nil⟩
  have hW := write_calls (some ⟨w.heap.size + 1, 0, none⟩) 2 2 _ _ rfl (by omega) bx (by show Bx.sizes live ≤ _; decide)
  have e0 : Bx.boxs [⟨sHead, some ⟨w.heap.size, 0, none⟩, 1, 1, [120]⟩, ⟨sDa, none, 0, 0, []⟩] = live := rfl
  rw [e0, live_wr.1, live_wr.2] at hW
  have HW := hide hW
  clear hW e0 bx
  have kc := Lib.run_convert_bytes_const (P := Try.prog) w 23 5 #[.int .u8 120] 1 1 Try.underlying23 Try.underlying5
  go_enter Try.func8, Try.ntmps8
  go_wp2_with fail
  generalize (w.alloc (.cells #[.int .u8 120] 5 (1, 2))).alloc (.cells #[.string sHead, .slice (some ⟨w.heap.size, 0, none⟩) 1 1, .string sDa, .slice none 0 0] 36) = W1 at *
  refine HW.out.mono ?_
  rintro e w2 ⟨A2, n2, c2, rfl, o2, g2, b2⟩
  have bel2 := bnext bel1 b2
  have hn2 := hide o2.1
  have hc2 : n2 ≤ c2 := own8_cap o2
  have hl17 : n2 ≤ 17 := by rw [o2.1]; decide
  clear HW
  go_wp2_with fail
  refine (parse_calls A2 n2 c2 liveB w2 hn2.out hc2 (by omega) o2.byt).mono ?_
  rintro e w3 (⟨_, A3, n3, c3, xs, rfl, o3, hx3, g3, b3⟩ | ⟨h, _⟩)
  · have bel3 := bnext bel2 b3
    have o23 := o2.below b3 o2.lt
    rw [live_pa.2] at hx3
    have hn3 := hide o3.len
    have hl3 : xs.length = 2 := by have := congrArg List.length hx3; rwa [Bx.length_boxs] at this
    have hs3 : ∀ x ∈ xs, x.n ≤ 1099511627776 := by
      intro x hx
      have h1 := (o3.2 x hx).1
      have h2 : (x.t, x.d) ∈ live := by rw [← hx3]; exact List.mem_map.2 ⟨x, hx, rfl⟩
      have h3 : ∀ y ∈ live, y.2.length ≤ 1 := by decide
      have := h3 _ h2
      dsimp only at this
      omega
    have hF := find_calls A3 n3 c3 xs sHead w3 hn3.out (by have := hn3.out; omega) o3.boxes hs3
    have hfe : Bx.find live sHead = ([120], true) := by
      show (if sHead = sHead then (([120] : List UInt8), true) else _) = _
      rw [if_pos rfl]
    rw [hx3] at hF
    have HF := hide hF
    have HS := hide hl3
    have n32 : n3 = 2 := by rw [hn3.out, hl3]
    subst n32
    clear hF hl3 hs3
    go_wp2_with fail
    refine HF.out.mono ?_
    rintro e w4 ⟨A4, n4, c4, rfl, hn4, by4, b4⟩
    rw [hfe] at hn4 by4 ⊢
    have bel4 := bnext bel3 b4
    have o24 := o23.below b4 o23.lt
    have o34 := o3.next b4
    have cv1 : Sem.run Try.prog (convert 23 9 (.slice A2 n2 c2)) w4 = .ok (.string ⟨#[0, 0, 0, 9, 104, 101, 97, 100, 120, 0, 0, 0, 8, 100, 97, 49, 97]⟩) w4 := run_conv8 bytesT Try.underlying9 A2 n2 c2 _ o24.byt hn2.out
    have cv2 : Sem.run Try.prog (convert 23 9 (.slice A4 n4 c4)) w4 = .ok (.string ⟨#[120]⟩) w4 := run_conv8 bytesT Try.underlying9 A4 n4 c4 _ by4 hn4
    have hK := kinds_calls A3 2 c3 xs w4 hn3.out (by omega) o34.boxes
    clear hn4 HF
    go_wp2_with (go_at_call 15; refine hK.mono ?_; rintro e w5 ⟨A5, n5, c5, rfl, o5, g5, b5⟩; have hn5 := o5.1; rw [List.length_map, HS.out] at hn5; subst hn5)
    go_ret
    exact ⟨rfl, bnext bel4 b5⟩
  · rw [live_pa.1] at h; cases h
end Go.Proofs.Ytjofojjinoipaaa
