/- The closed run: what it reads of package variables, what has no body; a contract out of a run. -/
import Derived.Test.YtbfhpgpceakeiaaGreatDoorConD
import Derived.Test.YtbfhpgpceakeiaaGreatDoorProg
import Derived.KernelRfl
namespace Go.Proofs.YtbfhpgpceakeiaaGreatDoor.Tw
open Kex Kex.Sh Go Go.Proofs
/-- the places of a square's blocks, the powers of ten -/
def Gs : List SF := [.ro (.k 1) (is [0, 0, 0, 0, 8, 0, 0, 0, 8, 0, 8, 8, 1, 0, 0, 2, 0, 0] []), .ro (.k 0) ([1, 10, 100, 1000, 10000, 100000, 1000000, 10000000, 100000000, 1000000000, 10000000000, 100000000000, 1000000000000, 10000000000000, 100000000000000, 1000000000000000, 10000000000000000, 100000000000000000, 1000000000000000000, 10000000000000000000].map (w .u64))]
noncomputable def NN : CallR := natN Tryz.prog Gs 164 313 295 81
def Ms : List Nat := [73, 122, 165, 245]
theorem nn_ok : ∀ X : Cx, X.P = Tryz.prog → X.Ps = Gs → NatOK X NN := natN_s ⟨Tryz.f164, by kernel_rfl, by kernel_rfl, by kernel_rfl, by kernel_rfl, by kernel_rfl⟩ ⟨Tryz.f313, by kernel_rfl, by kernel_rfl, by kernel_rfl, by kernel_rfl, by kernel_rfl⟩ ⟨Tryz.f295, by kernel_rfl, by kernel_rfl, by kernel_rfl, by kernel_rfl, by kernel_rfl⟩ ⟨Tryz.f81, by kernel_rfl, by kernel_rfl, by kernel_rfl, by kernel_rfl, by kernel_rfl⟩
theorem mix : Tryz.prog.follows .mixedOrders = true := by decide +kernel
theorem gs_cl : Gs.all (SF.al noV0) = true := by decide +kernel
def Good (c : Con) : Prop := c.holds Tryz.prog Gs ∧ c.ok = true
theorem gn : ∀ c ∈ ([] : List Con), Good c := fun _ h => by cases h
theorem ga {c : Con} {T : List Con} (h : Good c) (hs : ∀ d ∈ T, Good d) : ∀ d ∈ c :: T, Good d := fun d hd => by
  rcases List.mem_cons.1 hd with rfl | hd
  · exact h
  · exact hs d hd
theorem gcon {T : List Con} (hT : ∀ c ∈ T, Good c) {c : Con} (h : (c.ok && conB Tryz.prog Gs NN Ms T 40 c) = true) : Good c := by
  rw [Bool.and_eq_true] at h
  exact ⟨con_s nn_ok mix gs_cl (fun c hc => (hT c hc).1) (List.all_eq_true.2 fun c hc => (hT c hc).2) 40 h.1 h.2, h.1⟩
end Go.Proofs.YtbfhpgpceakeiaaGreatDoor.Tw
