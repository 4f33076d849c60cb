/-
  Contracts of the program's functions, and plain facts, towards the laws of millpondtop. No condition beyond those that each theorem bears.
-/
import Derived.Deep.RegionWith
import Derived.Test.YtkfoeonggmlebaaGreatDoorQ45
import Derived.Test.YtkfoeonggmlebaaGreatDoorQAA
set_option maxRecDepth 100000
set_option maxHeartbeats 4000000
namespace Go.Proofs.YtkfoeonggmlebaaGreatDoor
section
open Go.RowKit Go.Shelf Go.ChangeShapes Go.WideShapes
open Ent (Ent)
open Go.Proofs.YtkfoeonggmlebaaGreatDoor.Reg
attribute [local go_sem] Oper.semAt_some
variable {w0 w:World} {F0:Nat→Prop} {A B C P:Part} {ls ps L:List Part} {K:VK} {v:VmM} {N:Nat} {c:CoM} {CKK:CK} {cb b:Nat} {o:Opn} {a:Ans} {kv:Value}
def shareC (c:CoM) (ids:List Int):CoM:=ids.foldl (fun c id=>c.refer id 1) c
end
end Go.Proofs.YtkfoeonggmlebaaGreatDoor
