/-
  Contracts of the program's functions, and plain facts, towards the laws of millpondtop. No condition beyond those that each theorem bears.
-/
import Derived.BigRegionIn
import Derived.Sort.BigQuietIn
import Derived.OwnWalkIn
import Derived.Test.YtkfoeonggmlebaaGreatDoorQ13
import Derived.Test.YtkfoeonggmlebaaGreatDoorQAA
set_option maxRecDepth 100000
set_option maxHeartbeats 4000000
namespace Go.Proofs.YtkfoeonggmlebaaGreatDoor
section
open Go.RowKit
def noDefer (l:List Oper):Bool:=l.all fun o=>match o.op with | .defer _=>false | _=>true
theorem noDefer_spec {l:List Oper} (h:noDefer l=true) {o:Oper} (ho:o∈l):∀ c,o.op≠.defer c:=by
 intro c e
 have:=(List.all_eq_true.1 h) o ho
 rw [e] at this
 cases this
theorem operIn_inRound {F:Fence} {n:Nat} {P:Program} {o:Oper} {a:Act} {w:World} {K:Act→World→Prop} {Q:Exit→Act→World→Prop} (r:Nat) (hd:∀ c,o.op≠.defer c)
 (h:o.wpIn F n P a w K Q):o.wpIn (F.inRound r) n P a w K Q:=by
 unfold Oper.wpIn at *
 rw [Oper.semAt_plain F _ _ hd] at h
 rw [Oper.semAt_plain (F.inRound r) _ _ hd]
 refine ⟨h.1,?_⟩
 have hh:=h.2
 generalize (execOp a.eval o).run P w=x at *
 cases x with
 | ok x w'=>cases x<;>exact hh
 | halt x w'=>cases x<;>exact hh
theorem wpAnyIn_inRound {F:Fence} {n:Nat} {P:Program} {md:Region.Mode} {l:List Oper} {Q:Exit→Act→World→Prop} (r:Nat) (hd:noDefer l=true):∀ (fuel:Nat) (listed:Array Bool) (a:Act) (w:World),
 wpAnyIn F n P md l.toArray Q fuel listed a w→wpAnyIn (F.inRound r) n P md l.toArray Q fuel listed a w
 | 0,_,_,_,h=>h
 | fuel+1,listed,a,w,h=>by
   refine ⟨h.1,fun i hi=>?_⟩
   have h2:=h.2 i hi
   have h3:=wpOpIn_mono (fun a w=>wpAnyIn_inRound r hd fuel (listed.setIfInBounds i true) a w) h2
   unfold wpOpIn at h3 ⊢
   split
   · rename_i ho;simp only [ho] at h3;exact h3
   · rename_i o ho
     simp only [ho] at h3
     split
     · rename_i hw
       simp only [hw,if_true] at h3
       exact operIn_inRound r (noDefer_spec hd (ζm (by simpa using ho))) h3
     · rename_i hw;simp only [hw] at h3;exact h3
theorem wpIn_region_round_lit {F:Fence} {n:Nat} {P:Program} {id r:Nat} {Q:Exit→Act→World→Prop} {a:Act} {w:World} {l:List Oper} (hro:F.round=none) (hm:P.follows .mixedOrders=true) (hB:Region.lexB .any l.toArray=true) (hd:noDefer l=true)
 (h:wpQuietIn F n P l.toArray (fun w'=>∃ n,w'=w.drewN n) (fun a'=>∀ w',(∃ n,w'=w.drewN n)→Q .normal a' w') l a):(Code.region id l.toArray true).wpIn (F.inRound r) n P Q a w:=by
 have hB':=hB
 simp only [Region.lexB,Bool.and_eq_true] at hB
 refine wpIn_region_any hm (wpAnyIn_inRound r hd _ _ _ _ (wpAnyIn_of_quiet (C:=fun w'=>∃ n,w'=w.drewN n) (Q:=fun a'=>∀ w',(∃ n,w'=w.drewN n)→Q .normal a' w') hro (fun _ w' hw' h=>h w' hw') _ _ _ _ ⟨1,rfl⟩ ?_))
 have:=wpAnyQIn_lex (F:=F) (n:=n) (C:=fun w'=>∃ n,w'=w.drewN n) (md:=.any) hB.1 l.toArray.toList 0 (Array.replicate l.toArray.size false) a (by simp) (by simpa using hB.2) (by simpa using h)
 simpa using this
end
end Go.Proofs.YtkfoeonggmlebaaGreatDoor
