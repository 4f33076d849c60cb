/-
  Contracts of the program's functions, and plain facts, towards the laws of millpondtop. No condition beyond those that each theorem bears.
-/
import Derived.ProofKit
import Derived.OpenShut
import Derived.ShutString
import Derived.ChangeOld
import Derived.Deep.Slices
import Derived.Test.YtkfoeonggmlebaaGreatDoorQ01
import Derived.Test.YtkfoeonggmlebaaGreatDoorQAA
set_option maxRecDepth 100000
set_option maxHeartbeats 4000000
namespace Go.Proofs.YtkfoeonggmlebaaGreatDoor
section
open Go.RowKit Go.ChangeShapes Go.WideShapes Go.ChangeAt Go.Deep
def RowsAt {α:Type} (ec:α→List Value) (sz:Nat) (w:World) (v:Value) (xs:List α):Prop :=
 ∃ a cap,v=.slice a xs.length cap∧xs.length≤cap∧cap≤maxLen∧∀ (j:Nat) (x:α),xs[j]?=some x→∃ b off,a=some ⟨b,off,none⟩∧∀ i,i < sz→w.cell? ⟨b,off+j * sz+i,none⟩=(ec x)[i]?
section
variable {H:Type} {enc:TypeId × Value→H} {P:Program} {w:World} {base:Nat} {spare:Nat→Bool} {held:Bool}
def ecB (b:Bool):List Value:=[.bool b]
theorem RowsAt.keep {α:Type} {ec:α→List Value} {sz:Nat} {S:Nat→Prop} {w':World} {v:Value} {xs:List α} (h:RowsAt ec sz w v xs) (hlen:∀ x,(ec x).length=sz) (hm:Mod S w w') (hs:∀ b,b < w.heap.size→¬ S b):RowsAt ec sz w' v xs:=by
 obtain ⟨a,cap,h1,h2,h3,h4⟩:=h
 refine ⟨a,cap,h1,h2,h3,fun j x hj=>?_⟩
 obtain ⟨b,off,h5,h6⟩:=h4 j x hj
 refine ⟨b,off,h5,fun i hi=>?_⟩
 have h7:=h6 i hi
 rw [ζg (by rw [hlen];exact hi)] at h7 ⊢
 rw [hm.cell (lt_of_cell h7) (hs b (lt_of_cell h7))]
 exact h7
variable {v:Value} {t:TypeId} {r:Reach} {b0:Nat} {d:DataW H} {ps:List MemPlace}
end
end
end Go.Proofs.YtkfoeonggmlebaaGreatDoor
