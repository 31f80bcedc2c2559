/- Two readers of the same bytes, the program's and the document's, apart. No conditions. -/
import Derived.Test.YtdelaobffbaocaaBitsRAny
namespace Go.Proofs.Ytdelaobffbaocaa
open Go.RowKit Kin

/-- two readers of the same bytes, at one bit -/
def TwoR (w wr : World) (gr rr gm : Nat) (Rm : Option Nat) (l : List UInt8) (k : Nat) : Prop :=
  ReaderIs wr gr rr l k ∧ RefRIs wr gm Rm (Bit.row l) k ∧ Below w.heap.size w wr
/-- they are apart, and new -/
def Apart (n gr rr gm : Nat) (Rm : Option Nat) : Prop := gr ≠ gm ∧ rr ≠ gm ∧ Rm ≠ some gr ∧ n ≤ gr ∧ n ≤ gm
theorem TwoR.getB {w wr W' : World} {gr rr gm : Nat} {Rm : Option Nat} {l : List UInt8} {k k1 : Nat} (h : TwoR w wr gr rr gm Rm l k) (a : Apart w.heap.size gr rr gm Rm) (h1 : ReaderIs W' gr rr l k1) (hc : Chg (One gr) wr W') :
    RefRIs W' gm Rm (Bit.row l) k ∧ Below w.heap.size w W' :=
  ⟨h.2.1.keep hc (fun i hi e => by
    have e : i = gr := e
    subst e
    rcases hi with hi | hi
    · exact a.1 hi
    · exact a.2.2.1 hi), h.2.2.trans (hc.below (fun i e => by have e : i = gr := e; subst e; exact a.2.2.2.1) h.2.2.size)⟩
theorem TwoR.getM {w wr W' : World} {gr rr gm : Nat} {Rm : Option Nat} {l : List UInt8} {k1 : Nat} (h1 : ReaderIs wr gr rr l k1) (hb : Below w.heap.size w wr) (a : Apart w.heap.size gr rr gm Rm) (h2 : RefRIs W' gm Rm (Bit.row l) k1) (hc : Chg (One gm) wr W') :
    TwoR w W' gr rr gm Rm l k1 :=
  ⟨h1.keep hc a.1 a.2.1, h2, hb.trans (hc.below (fun i e => by have e : i = gm := e; subst e; exact a.2.2.2.2) hb.size)⟩

theorem left_b (g r : Nat) (l : List UInt8) (k : Nat) (w : World) (h : ReaderIs w g r l k) :
    Calls Try.prog 32 #[.pointer (some ⟨g, 0, none⟩)] w fun e w' => e = .returned (.int .i64 (8 * (l.length : Int) - (k : Int))) ∧ Below w.heap.size w w' :=
  (left_calls g r l k w h).mono fun _ _ ⟨he, hw⟩ => ⟨he, by subst hw; exact (Below.refl _ _).drew⟩
end Go.Proofs.Ytdelaobffbaocaa
