/-
  Contracts of the program's functions, and plain facts, towards the laws of millpondtop. No condition beyond those that each theorem bears.
-/
import Derived.LaidMore
import Derived.OpenShut
import Derived.ProofKit
import Derived.Stop.Joined
import Derived.Test.YtkfoeonggmlebaaGreatDoorQ04
import Derived.Test.YtkfoeonggmlebaaGreatDoorQ23
import Derived.Test.YtkfoeonggmlebaaGreatDoorQAA
set_option maxRecDepth 100000
set_option maxHeartbeats 4000000
namespace Go.Proofs.YtkfoeonggmlebaaGreatDoor
section
open Go.ChangeShapes Go.WideShapes Go.RowKit
theorem gTab:Tryz.prog.globalNamed "math/bits.deBruijn64tab"=some 2:=by kernel_rfl
theorem tTab:(Tryz.prog.globals[ 2 ]?).map (·.type)=some 350:=by kernel_rfl
def laidL {H:Type}:List (String × DataW H):=[("math/bits.deBruijn64tab",Rows.laid_math_bits_deBruijn64tab)]
theorem laid_deB {H:Type}:(Rows.laid_math_bits_deBruijn64tab:DataW H)=.agg (Pol.deB.map fun (x:Nat)=>.lit (.int .u8 (x:Int))):=rfl
theorem tab_of_laid {W:World} (h:laidMetH Tryz.prog laidL W):Pol.TabIs W:=by
 rw [MakeChecks.laidMetH_plain _ _ _ (by kernel_rfl)] at h
 obtain ⟨ps,⟨g0,t0,cs0,f0,p0,q0,hg0,ht0,hv0,hd0,_,_⟩,_,_⟩:=h
 obtain rfl:=Option.some.inj (gTab.symm.trans hg0)
 obtain rfl:=Option.some.inj (tTab.symm.trans ht0)
 obtain ⟨xs,m1,rfl,hx1,hlen,hn3,hel⟩:=DataW.trod_array Tryz.underlying350 hd0
 have c8:Tryz.prog.cellsOf 5=1:=by kernel_rfl
 rw [c8] at hel
 simp only [Prod.mk.injEq] at hx1
 rw [laid_deB] at hx1
 injection hx1.1 with hx1
 intro k x hk
 have hk64:k < 64:=by
  have:=(ζi.1 hk).1
  have e:Pol.deB.length=64:=by decide
  omega
 have h0:=hel k hk64
 obtain ⟨y,hy⟩:∃ y,xs[k]?=some y:=⟨_,ζg (by omega)⟩
 rw [hy] at h0
 obtain ⟨n,e1,e2,_⟩:=DataW.trod_int Tryz.underlying5 h0
 have e3:((xs.map (·.1))[k]?)=some y.1:=by rw [List.getElem?_map,hy];rfl
 rw [←hx1,List.getElem?_map,hk,e2] at e3
 have e4:n=(x:Int):=by simpa using e3.symm
 subst e4
 have:=World.var?_cell hg0 hv0 k
 rw [this]
 have e5:(cs0.toList.drop (k * 1)).take 1=[.int .u8 (x:Int)]:=e1
 have e6:cs0.toList[k]?=some (.int .u8 (x:Int)):=by
  have:=congrArg (fun l=>l[0]?) e5
  simpa [List.getElem?_take,List.getElem?_drop] using this
 simpa using e6
theorem own:ownKnob Tryz.prog.godebug=none:=by kernel_rfl
theorem laidOut:laidOutB Tryz.prog=true:=by kernel_rfl
theorem door_met (os:Os) (args:Array Value):laidMetH Tryz.prog laidL ((World.doorLaid Tryz.prog 400 os).forCall (fun _ _=>0) ⟨#[],args,[]⟩).memory :=
 laidMetH_of_parts3 (fuel:=8) (laidMet_of_run' 8 (by kernel_rfl) (by kernel_rfl)) (by kernel_rfl) (by kernel_rfl)
end
end Go.Proofs.YtkfoeonggmlebaaGreatDoor
