/-
  More of this seat's general laws.
-/
import Derived.Test.YtjmcfodlhhndoaaLib
namespace Go.Proofs.Ytjmcfodlhhndoaa
open Go.RowKit

theorem Mod.keeps {S : Nat → Prop} {a w : World} (h : Mod S a w) {b o : Nat} {v : Value} (hc : a.cell? ⟨b, o, .none⟩ = some v) (hs : ¬ S b) : w.cell? ⟨b, o, .none⟩ = some v := by
  rw [h.cell (lt_of_cell hc) hs]; exact hc

instance extSome (w : World) : Nonempty (Ext w) := ⟨⟨w, Mod.refl _ w⟩⟩

end Go.Proofs.Ytjmcfodlhhndoaa
