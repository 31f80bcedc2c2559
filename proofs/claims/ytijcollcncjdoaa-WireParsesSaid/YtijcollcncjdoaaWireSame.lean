/- Two responses that are one, by its contract; two requests compared. Conditions: the bodies read as bytes. -/
import Derived.Test.YtijcollcncjdoaaWireOpen
import Derived.Laws.StructEq
namespace Go.Proofs.Ytijcollcncjdoaa
open Go.RowKit Kin

abbrev boxed2 (w : World) (id st fr sz : Int) (A : Option Addr) (n c : Nat) (A' : Option Addr) (n' c' : Nat) : World :=
  (w.alloc (.cells #[.int .i64 id, .int .i64 st, .int .i64 fr, .int .i64 sz, .slice A n c] 27)).alloc (.cells #[.int .i64 id, .int .i64 st, .int .i64 fr, .int .i64 sz, .slice A' n' c'] 27)
theorem boxed2_two (w : World) (id st fr sz : Int) (A : Option Addr) (n c : Nat) (A' : Option Addr) (n' c' : Nat) :
    Blk (boxed2 w id st fr sz A n c A' n' c') w.heap.size 27 #[.int .i64 id, .int .i64 st, .int .i64 fr, .int .i64 sz, .slice A n c] ∧ Blk (boxed2 w id st fr sz A n c A' n' c') (w.heap.size + 1) 27 #[.int .i64 id, .int .i64 st, .int .i64 fr, .int .i64 sz, .slice A' n' c'] ∧ Below w.heap.size w (boxed2 w id st fr sz A n c A' n' c') := by
  have n1 := Blk.new w 27 #[.int .i64 id, .int .i64 st, .int .i64 fr, .int .i64 sz, .slice A n c]
  have n2 := Blk.new (w.alloc (.cells #[.int .i64 id, .int .i64 st, .int .i64 fr, .int .i64 sz, .slice A n c] 27)) 27 #[.int .i64 id, .int .i64 st, .int .i64 fr, .int .i64 sz, .slice A' n' c']
  have s1 : (w.alloc (.cells #[.int .i64 id, .int .i64 st, .int .i64 fr, .int .i64 sz, .slice A n c] 27)).heap.size = w.heap.size + 1 := World.size_alloc _ _
  rw [s1] at n2
  exact ⟨n1.alloc _, n2, ((Below.refl _ _).alloc (Nat.le_refl _) _).alloc (by rw [s1]; omega) _⟩

set_option maxRecDepth 100000 in
set_option maxHeartbeats 2000000 in
theorem sameResp_calls (id st fr sz : Int) (A A' : Option Addr) (n c n' c' : Nat) (l : List UInt8) (w : World) (hn : n = l.length) (hn' : n' = l.length) {B B' : Nat} (hA0 : Byt w B A l) (hA0' : Byt w B' A' l) :
    Calls Try.prog 20 #[resV id st fr sz A n c, resV id st fr sz A' n' c'] w (RetBool w true) := by
  have hA := hA0.here
  have hA' := hA0'.here
  clear hA0 hA0'
  obtain ⟨k1, k2, b0⟩ := boxed2_two w id st fr sz A n c A' n' c'
  have hA1 := (hA.below b0).more b0.size
  have hA1' := (hA'.below b0).more b0.size
  have HN := hide hn
  have HN' := hide hn'
  clear hn hn' hA hA'
  have p0 : (boxed2 w id st fr sz A n c A' n' c').cell? ⟨w.heap.size, 0, none⟩ = some (.int .i64 id) := k1.cell 0
  have p1 : (boxed2 w id st fr sz A n c A' n' c').cell? ⟨w.heap.size, 1, none⟩ = some (.int .i64 st) := k1.cell 1
  have p2 : (boxed2 w id st fr sz A n c A' n' c').cell? ⟨w.heap.size, 2, none⟩ = some (.int .i64 fr) := k1.cell 2
  have p3 : (boxed2 w id st fr sz A n c A' n' c').cell? ⟨w.heap.size, 3, none⟩ = some (.int .i64 sz) := k1.cell 3
  have p4 : (boxed2 w id st fr sz A n c A' n' c').cell? ⟨w.heap.size, 4, none⟩ = some (.slice A n c) := k1.cell 4
  have q0 : (boxed2 w id st fr sz A n c A' n' c').cell? ⟨w.heap.size + 1, 0, none⟩ = some (.int .i64 id) := k2.cell 0
  have q1 : (boxed2 w id st fr sz A n c A' n' c').cell? ⟨w.heap.size + 1, 1, none⟩ = some (.int .i64 st) := k2.cell 1
  have q2 : (boxed2 w id st fr sz A n c A' n' c').cell? ⟨w.heap.size + 1, 2, none⟩ = some (.int .i64 fr) := k2.cell 2
  have q3 : (boxed2 w id st fr sz A n c A' n' c').cell? ⟨w.heap.size + 1, 3, none⟩ = some (.int .i64 sz) := k2.cell 3
  have q4 : (boxed2 w id st fr sz A n c A' n' c').cell? ⟨w.heap.size + 1, 4, none⟩ = some (.slice A' n' c') := k2.cell 4
  have cv1 : Sem.run Try.prog (convert 25 9 (.slice A n c)) (boxed2 w id st fr sz A n c A' n' c') = .ok (.string (str l)) (boxed2 w id st fr sz A n c A' n' c') := run_conv8 (P := Try.prog) bytesT Try.underlying9 A n c _ hA1 HN.out
  have cv2 : Sem.run Try.prog (convert 25 9 (.slice A' n' c')) (boxed2 w id st fr sz A n c A' n' c') = .ok (.string (str l)) (boxed2 w id st fr sz A n c A' n' c') := run_conv8 (P := Try.prog) bytesT Try.underlying9 A' n' c' _ hA1' HN'.out
  clear k1 k2 hA1 hA1'
  go_enter Try.func20, Try.ntmps20
  go_wp2
  go_ret
  exact ⟨rfl, b0⟩

theorem req_eq (a : Int) (p : ByteArray) (b c : Int) (a' : Int) (p' : ByteArray) (b' c' : Int) (w : World) : (binOp .eql 23 (reqV a p b c) (reqV a' p' b' c')).run Try.prog w = .ok (.bool (a == a' && p.toList == p'.toList && b == b' && c == c')) w := by
  have u3 := Try.underlying3
  have a3 := Try.isAgg3
  have z3 := Try.sizeOf3
  have u4 := Try.underlying9
  have a4 := Try.isAgg9
  have z4 := Try.sizeOf9
  have hS : Try.prog.underlying 23 = some (.struct (Try.prog.fieldsOf 23)) := by kernel_rfl
  rw [run_eql_struct, show (10000 : Nat) = 9999 + 1 from rfl, run_equalIn_agg w 9999 23 _ _ hS (by kernel_rfl)]
  simp only [Program.fieldsOf, Try.underlying23]
  go_simp
  by_cases h1 : a = a' <;> by_cases h2 : b = b' <;> by_cases h3 : c = c' <;> by_cases h4 : p.toList = p'.toList <;> simp [h1, h2, h3, h4]
end Go.Proofs.Ytijcollcncjdoaa
