/- Texts of bytes: 'string(b)' where b reads as a list. Over any program; no conditions. -/
import Derived.Test.YtbfhpgpceakeiaaGreatDoorApp
import Derived.Laws.IdiomStrings
import Derived.Lib.BufferRead
import Derived.Lib.Strings
namespace Kin
open Go Go.RowKit

/-- the text of bytes -/
def str (l : List UInt8) : ByteArray := ⟨l.toArray⟩
theorem str_toList (l : List UInt8) : (str l).toList = l := by
  rw [Lib.toList_data]; rfl
theorem str_inj {l m : List UInt8} (h : str l = str m) : l = m := by
  unfold str at h
  injection h with h
  exact List.toArray_inj h
theorem run_conv8 {P : Program} {w : World} {t e ts : TypeId} (ht : IsBytes P t e) (hd : P.underlying ts = some .string) (A : Option Addr) (n c : Nat) (l : List UInt8) {B : Nat} (hb : Byt w B A l) (hn : n = l.length) :
    (convert t ts (.slice A n c)).run P w = .ok (.string (str l)) w := by
  subst hn
  rcases A with _ | ad
  · have hl : l = [] := by
      rcases l with _ | ⟨b, l⟩
      · rfl
      · obtain ⟨_, _, h, _⟩ := hb (by simp)
        cases h
    subst hl
    exact Lib.run_convert_nil_bytes w t ts e c ht.1 ht.2.1 hd
  · refine run_convert_bytes_back w t ts e ad c l ht.1 ht.2.1 hd (fun j hj => ?_)
    obtain ⟨b, off, h, _, hc⟩ := hb (by omega)
    injection h with h
    subst h
    rw [Addr.add_lit]
    exact hc j _ (List.getElem?_eq_getElem hj)
end Kin
