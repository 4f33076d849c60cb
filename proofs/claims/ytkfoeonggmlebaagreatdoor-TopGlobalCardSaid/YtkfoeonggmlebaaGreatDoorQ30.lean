/-
  Contracts of the program's functions, and plain facts, towards the laws of millpondtop. No condition beyond those that each theorem bears.
-/
import Derived.Test.YtkfoeonggmlebaaGreatDoorQ29
import Derived.Test.YtkfoeonggmlebaaGreatDoorQAA
set_option maxRecDepth 100000
set_option maxHeartbeats 4000000
namespace Go.Proofs.YtkfoeonggmlebaaGreatDoor
section
open Go.RowKit
def optV (b:Bool) (v:Value):Value:=bif b then v else undef
theorem optV_true (v:Value):optV true v=v:=rfl
theorem optV_false (v:Value):optV false v=undef:=rfl
def updF (f:Nat→Bool) (i:Nat):Nat→Bool:=fun j=>if j=i then true else f j
def backB (l:List Oper):Bool:=(List.range l.length).all fun i=>match l[i]? with
 | some o=>o.after.all fun e=>decide (e.on < i)
 | none=>true
theorem backB_spec {l:List Oper} (h:backB l=true) {i:Nat} {o:Oper} (hi:l.toArray[i]?=some o):∀ e∈o.after,e.on < i:=by
 have hi':l[i]?=some o:=by simpa using hi
 have hlt:=(ζi.1 hi').1
 have:=List.all_eq_true.1 h i (List.mem_range.2 hlt)
 rw [hi'] at this
 intro e he
 have:=Array.all_eq_true_iff_forall_mem.1 this e he
 simpa using this
theorem count_upd {n i:Nat} (listed:Array Bool) (hs:listed.size=n) (h:listed.getD i true=false):((listed.setIfInBounds i true).toList.count false)+1=listed.toList.count false:=by
 subst hs
 have hlt:i < listed.size:=by
  rcases Nat.lt_or_ge i listed.size with h' | h'
  · exact h'
  · simp [Array.getElem?_eq_none h'] at h
 have hv:listed.toList[i]?=some false:=by simp [hlt] at h ⊢;exact h
 rw [Array.toList_setIfInBounds]
 have hl:listed.toList.length=listed.size:=by simp
 generalize listed.toList=l at *
 rw [←hl] at hlt
 clear hl h
 induction l generalizing i with
 | nil=>simp at hlt
 | cons x l ih =>
   cases i with
   | zero=>simp at hv;subst hv;simp
   | succ i =>
     simp at hv
     have:=ih (i:=i) (by simpa using hlt) hv
     simp only [List.set_cons_succ,List.count_cons]
     omega
variable {P:Program} {Q:Exit→Act→World→Prop} {id:Nat} {l:List Oper}
theorem wpAny_inv (Inv:(Nat→Bool)→Act→World→Prop) (hb:backB l=true)
 (hstep:∀ (i:Nat) (o:Oper) (f:Nat→Bool) (a:Act) (w:World),l[i]?=some o→f i=false→(∀ e∈o.after,Region.binds .any e=true→f e.on=true)→Inv f a w →
   ∀ K':Act→World→Prop,Shut (∀ a' w',Inv (updF f i) a' w'→K' a' w')→if Region.wanted o (yielded l.toArray a.tmps)=true then Oper.wp P o a w K' Q else K' (a.put o.dst undef) w)
 (hend:∀ (f:Nat→Bool) (a:Act) (w:World),(∀ i,i < l.length→f i=true)→Inv f a w→Q .normal a w) :
 ∀ (fuel:Nat) (listed:Array Bool) (a:Act) (w:World),listed.size=l.length→listed.toList.count false≤fuel→Inv (fun j=>listed.getD j false) a w→wpAny P .any l.toArray Q fuel listed a w:=by
 have hall:∀ (listed:Array Bool) (a:Act) (w:World),listed.size=l.length→Region.ready .any l.toArray listed=[]→Inv (fun j=>listed.getD j false) a w→Q .normal a w:=by
  intro listed a w hs hr hI
  refine hend _ a w (fun i hi=>?_) hI
  induction i using Nat.strongRecOn with
  | _ i ih =>
    cases hx:listed.getD i false with
    | true=>rfl
    | false =>
      exfalso
      have ho:l.toArray[i]?=some l[i]:=by simp [hi]
      have:i∈Region.ready .any l.toArray listed:=mem_ready.2 ⟨by rw [Array.getD_eq_getD_getElem?] at hx ⊢;simp [hs,hi] at hx ⊢;exact hx,_,ho,fun e he _=>ih e.on (backB_spec hb ho e he) (Nat.lt_trans (backB_spec hb ho e he) hi)⟩
      rw [hr] at this
      cases this
 intro fuel
 induction fuel with
 | zero =>
   intro listed a w hs hc hI
   have hr:Region.ready .any l.toArray listed=[]:=by
    rw [List.eq_nil_iff_forall_not_mem]
    intro i hi
    have h1:=(mem_ready.1 hi).1
    have:=count_upd listed rfl h1
    omega
   exact ⟨hr,hall listed a w hs hr hI⟩
 | succ fuel ih =>
   intro listed a w hs hc hI
   refine ⟨fun hr=>hall listed a w hs hr hI,fun i hi=>?_⟩
   obtain ⟨h1,o,ho,hdep⟩:=mem_ready.1 hi
   have hcu:=count_upd listed rfl h1
   have hlt:i < listed.size:=by
    rw [hs]
    have:=(Array.getElem?_eq_some_iff.1 ho).1
    simpa using this
   refine wpOp_step ho (fun K' hK=>hstep i o (fun j=>listed.getD j false) a w (by simpa using ho) (by rw [Array.getD_eq_getD_getElem?] at h1 ⊢;simp [hlt] at h1 ⊢;exact h1) hdep hI K' (fun a' w' h=>hK a' w' (ih _ a' w' (by simpa using hs) (by omega) ?_)))
   have e:(fun j=>(listed.setIfInBounds i true).getD j false)=updF (fun j=>listed.getD j false) i:=by
    funext j
    unfold updF
    simp only [Array.getD_eq_getD_getElem?]
    by_cases hj:j=i
    · subst hj;simp [hlt]
    · rw [if_neg hj,Array.getElem?_setIfInBounds_ne (by omega)]
   rw [e]
   exact h
theorem wp_region_inv {a:Act} {w:World} (hm:P.follows .mixedOrders=true) (Inv:(Nat→Bool)→Act→World→Prop) (hb:backB l=true) (h0:Inv (fun _=>false) a w.drew)
 (hstep:∀ (i:Nat) (o:Oper) (f:Nat→Bool) (a:Act) (w:World),l[i]?=some o→f i=false→(∀ e∈o.after,Region.binds .any e=true→f e.on=true)→Inv f a w →
   ∀ K':Act→World→Prop,Shut (∀ a' w',Inv (updF f i) a' w'→K' a' w')→if Region.wanted o (yielded l.toArray a.tmps)=true then Oper.wp P o a w K' Q else K' (a.put o.dst undef) w)
 (hend:∀ (f:Nat→Bool) (a:Act) (w:World),(∀ i,i < l.length→f i=true)→Inv f a w→Q .normal a w) :
 (Code.region id l.toArray true).wp P Q a w:=by
 refine wp_region_any hm (wpAny_inv Inv hb hstep hend _ _ _ _ (by simp) (Nat.le_trans List.count_le_length (by simp)) ?_)
 have e:(fun j=>(Array.replicate l.toArray.size false).getD j false)=fun _=>false:=by
  funext j
  simp only [Array.getD_eq_getD_getElem?]
  rw [Array.getElem?_replicate]
  split<;>rfl
 rw [e]
 exact h0
variable {w0 w:World} {F0:Nat→Prop} {A B:Part} {ls:List Part}
theorem Step.updAt {ps:List Part} (i:Nat) (st:Step w0 F0 ps w) (hi:ps[i]?=some A):∃ F1,A.at_ w F1∧∀ (w':World) (A':Part) (F1':Nat→Prop),Mod F1 w w'→A'.at_ w' F1'→(∀ x,F1' x→F1 x∨w.heap.size≤x)→Step w0 F0 (ps.set i A') w':=by
 obtain ⟨F,hs,hg,hF⟩:=st.sep
 obtain ⟨F1,h1,h2,h3⟩:=hs.upd i hi
 have hz:=st.mod.size
 have htl:=tab_lt st.tab
 refine ⟨F1,h1,fun w' A' F1' hm ha hgr=>⟨?_,?_,_,h3 w' A' F1' hm ha hgr,?_,?_⟩⟩
 · refine st.mod.trans' hm (fun i hi h=>?_)
   rcases hg i (h2 i h) with h | h
   · exact h
   · omega
 · exact st.tab.keep hm (fun h=>hF (h2 _ h))
 · rintro x (⟨h,_⟩ | h)
   · exact hg x h
   · rcases hgr x h with h | h
     · exact hg x (h2 x h)
     · right;omega
 · rintro (⟨h,_⟩ | h)
   · exact hF h
   · rcases hgr _ h with h | h
     · exact hF (h2 _ h)
     · omega
theorem Step.makeAt {ps:List Part} (i:Nat) (st:Step w0 F0 ps w) (hi:ps[i]?=some nilP) {w':World} {F:Nat→Prop} (hm:Mod (fun _=>False) w w') (ha:B.at_ w' F) (hn:∀ x,F x→w.heap.size≤x):Step w0 F0 (ps.set i B) w':=by
 obtain ⟨F1,rfl,h2⟩:=st.updAt i hi
 exact h2 w' B F hm ha (fun x hx=>.inr (hn x hx))
theorem Step.setAt {ps:List Part} (i:Nat) {b j:Nat} {cs:Array Value} {T:TypeId} {v:Value} (st:Step w0 F0 ps w) (hi:ps[i]?=some (blkP b cs T)):Step w0 F0 (ps.set i (blkP b (cs.setIfInBounds j v) T)) (w.setCell ⟨b,j,none⟩ v):=by
 obtain ⟨F1,⟨h1,rfl⟩,h2⟩:=st.updAt i hi
 exact h2 _ _ _ (mod_setCell w b j v) ⟨h1.set j v,rfl⟩ (fun x hx=>.inl hx)
theorem Sep.settle {w:World}:∀ {l:List Part} {F:Nat→Prop} {P:Part} (i:Nat),Sep (P::l) w F→l[i]?=some nilP→Sep (l.set i P) w F
 | [],_,_,i,_,hi=>by simp at hi
 | B::l,F,P,0,⟨F1,F2,h1,⟨F3,F4,h5,h6,h7,h8⟩,h3,h4⟩,hi=>by
   simp at hi
   subst hi
   obtain rfl:F3=fun _=>False:=h5
   refine ⟨F1,F4,h1,h6,fun x hx h=>h3 x hx ((h8 x).2 (.inr h)),fun x=>?_⟩
   rw [h4 x,h8 x];simp
 | B::l,F,P,i+1,⟨F1,F2,h1,⟨F3,F4,h5,h6,h7,h8⟩,h3,h4⟩,hi=>by
   simp at hi
   refine ⟨F3,fun x=>F1 x∨F4 x,h5,Sep.settle i ⟨F1,F4,h1,h6,fun x hx h=>h3 x hx ((h8 x).2 (.inr h)),fun x=>Iff.rfl⟩ hi,?_,fun x=>?_⟩
   · rintro x hx (h | h)
     · exact h3 x h ((h8 x).2 (.inl hx))
     · exact h7 x hx h
   · have e:=h4 x
     have e':=h8 x
     grind
theorem Step.settle {l:List Part} (i:Nat) (st:Step w0 F0 (A::B::l) w) (hi:l[i]?=some nilP):Step w0 F0 (A::l.set i B) w:=st.mapTail fun F h=>⟨F,h.settle i hi,fun _ x=>x⟩
theorem Step.nil (st:Step w0 F0 (A::ls) w):Step w0 F0 (A::nilP::ls) w:=st.mapTail fun F h=>⟨F,⟨fun _=>False,F,rfl,h,fun x hx=>hx.elim,fun x=>by simp⟩,fun _ x=>x⟩
end

section
open Go.RowKit Go.Shelf Go.ChangeShapes Go.WideShapes
attribute [local go_sem] Oper.semAt_some
variable {w0 w:World} {F0:Nat→Prop} {A:Part} {K:CK} {c:CoM} {ls:List Part}
theorem core_evict (t:Int) (gs:List Int) (gv:Value) (n:Nat) (all:Bool) (hsm:∀ g,c.mem g≤33554432) (hN:c.gens.length≤1000000) (st:Step w0 F0 (coreP K c::ls) w) (hv:rowP 3 1 gv n (gs.map encI)∈ls) (hn:n=gs.length) :
 Calls Tryz.prog 97 #[.pointer (some ⟨K.b,0,none⟩),.int .i64 t,gv,.bool all] w fun e w'=>e=.returned (.bool (c.evict t gs all).isSome)∧Step w0 F0 (coreP K ((c.evict t gs all).getD c)::ls) w':=by
 obtain ⟨R,hR⟩:∃ R,R=c.evict t gs all:=⟨_,rfl⟩
 rw [←hR]
 unfold CoM.evict at hR
 have HR:=ζh hR
 have HV:=ζh hv
 have HN:=ζh hN
 have HSM:=ζh hsm
 have HNN:=ζh hn
 have ST:=ζh st
 clear hR hv hN hsm hn st
 go_enter Tryz.func97,Tryz.ntmps97
 go_upto_region 1 with fail
 obtain ⟨wb,hnwb⟩:∃ wb,wb=w.alloc (.cells #[.pointer (some ⟨K.b,0,none⟩)] 51):=⟨_,rfl⟩
 have stwb:=(ST.out).local (cs:=#[.pointer (some ⟨K.b,0,none⟩)]) (T:=51)
 rw [←hnwb] at stwb ⊢
 clear hnwb
 have h0:=core_h0 stwb
 have hli:=c_live t stwb
 have b0:=stwb.blk1.cell 0
 simp only [ζa,ζb] at b0
 have STB:=ζh stwb
 have HLI:=ζh hli
 clear stwb hli
 cases hl:c.live t with
 | false =>
   rw [hl] at HLI
   have hr:=HR.out
   rw [hl,if_neg (by decide)] at hr
   have HRN:=ζh hr
   clear hl hr
   go_wp2_with fail
   refine HLI.out.mono ?_
   rintro e w3 ⟨rfl,rfl⟩
   go_wp2_with fail
   go_ret
   rw [HRN.out]
   exact ⟨rfl,STB.out.drop2⟩
 | true =>
   rw [hl] at HLI
   have hr:=HR.out
   rw [hl,if_pos rfl] at hr
   have HRN:=ζh hr
   clear hl hr
   go_wp2_with fail
   refine HLI.out.mono ?_
   rintro e w3 ⟨rfl,rfl⟩
   go_wp2_with fail
   obtain ⟨N,hNn⟩:∃ N,N=c.guards.length:=⟨_,rfl⟩
   have HG:=ζh hNn
   clear hNn
   refine wp_region_inv (by kernel_rfl) (fun f a W=>∃ (x y c1 c2:Nat) (a1 a2:Option Addr),a={ tmps:=#[.pointer (some ⟨K.b,0,none⟩),.int .i64 t,gv,.bool all,.pointer (some ⟨w.heap.size,0,none⟩),undef,undef,undef,.bool false,(optV (f 6) (.pointer (some ⟨x,0,none⟩))),(optV (f 7) (.pointer (some ⟨y,0,none⟩))),undef,undef,.pointer (some ⟨K.b,0,none⟩),.pointer (some ⟨K.b,0,none⟩),.pointer (some ⟨K.b,0,none⟩),.pointer (some ⟨K.tb,0,none⟩),.int .i64 t,.bool true,.bool false,
    (optV (f 0) (.pointer (some ⟨K.b,0,none⟩))),(optV (f 1) (.int .i64 t)),(optV (f 2) (.slice a1 N c1)),(optV (f 3) (.pointer (some ⟨K.b,0,none⟩))),(optV (f 4) (.int .i64 t)),(optV (f 5) (.slice a2 N c2)),undef,undef,undef,undef,undef,undef,undef,undef,undef,undef,undef,undef,undef,undef,undef,undef,undef,undef],defers:=[] }∧(f 8=true→f 6=true∧f 2=true)∧(f 9=true→f 7=true∧f 5=true) ∧
    Step w0 F0 (coreP K c::(if f 6=true then blkP x #[if f 8=true then .slice a1 N c1 else .slice none 0 0] 170 else nilP)::(if f 7=true then blkP y #[if f 9=true then .slice a2 N c2 else .slice none 0 0] 170 else nilP)::(if f 2=true then rowP 4 1 (.slice a1 N c1) N ((c.held t GuM.min).map Value.bool) else nilP)::(if f 5=true then rowP 4 1 (.slice a2 N c2) N ((c.held t GuM.low).map Value.bool) else nilP)::blkP w.heap.size #[.pointer (some ⟨K.b,0,none⟩)] 51::ls) W) (by kernel_rfl) ?h0 ?hstep ?hend
   case h0 =>
    refine ⟨0,0,0,0,none,none,?_,by simp,by simp,?_⟩
    · simp [optV_false]
    · simp only [Bool.false_eq_true,if_false]
      exact STB.out.drew.nil.nil.nil.nil
   case hstep =>
    rintro i o f a W ho hf hdep ⟨x,y,c1,c2,a1,a2,rfl,h8,h9,st⟩ K' hK
    have hi:i < 10:=(ζi.1 ho).1
    obtain rfl | rfl | rfl | rfl | rfl | rfl | rfl | rfl | rfl | rfl:i=0∨i=1∨i=2∨i=3∨i=4∨i=5∨i=6∨i=7∨i=8∨i=9:=by omega
    all_goals
     simp only [ζc,ζb,Option.some.injEq] at ho
     subst ho
     rw [if_pos (by rfl)]
     have hbox:W.cell? ⟨w.heap.size,0,none⟩=some (.pointer (some ⟨K.b,0,none⟩)):=by
      have:=(st.blk (b:=w.heap.size) (cs:=#[.pointer (some ⟨K.b,0,none⟩)]) (T:=51) (by simp)).cell 0
      simpa using this
     have HS:=ζh st
     have HF:=ζh hf
     have HD:=ζh hdep
     have H8:=ζh h8
     have H9:=ζh h9
     clear hf hdep hi st h8 h9
     dsimp only
    · go_simp
      refine hK.out _ _ ⟨x,y,c1,c2,a1,a2,by simp [optV_true,optV_false,updF],by simpa [updF] using H8.out,by simpa [updF] using H9.out,?_⟩
      have:=HS.out;simpa [updF] using this
    · go_simp
      refine hK.out _ _ ⟨x,y,c1,c2,a1,a2,by simp [optV_true,optV_false,updF],by simpa [updF] using H8.out,by simpa [updF] using H9.out,?_⟩
      have:=HS.out;simpa [updF] using this
    · have f0:f 0=true:=HD.out ⟨0,.data⟩ (by simp) (by rfl)
      have f1:f 1=true:=HD.out ⟨1,.data⟩ (by simp) (by rfl)
      have f8:f 8=false:=by
       cases h:f 8 with
       | false=>rfl
       | true=>have:=(H8.out h).2;rw [HF.out] at this;cases this
      have st:=HS.out
      simp only [HF.out,f8,Bool.false_eq_true,if_false] at st
      simp only [f0,f1,optV_true]
      go_simp
      go_at_call 92
      refine (core_heldMins t HSM.out st).mono ?_
      rintro e w4 ⟨v1,rfl,st4⟩
      rw [←HG.out] at st4
      obtain ⟨a1',c1',rfl⟩:=ownsRow_form st4.row1
      have st5:=st4.settle 2 (by simp)
      have HS5:=ζh st5
      clear st st4 st5
      simp only [Act.put,List.setIfInBounds_toArray,List.set_cons_zero,List.set_cons_succ]
      refine hK.out _ _ ⟨x,y,c1',c2,a1',a2,by simp [optV_true,optV_false,updF,f0,f1],by simp [optV_true,optV_false,updF,f8],by simpa [updF] using H9.out,?_⟩
      have:=HS5.out;simpa [updF,f8] using this
    · go_simp
      refine hK.out _ _ ⟨x,y,c1,c2,a1,a2,by simp [optV_true,optV_false,updF],by simpa [updF] using H8.out,by simpa [updF] using H9.out,?_⟩
      have:=HS.out;simpa [updF] using this
    · go_simp
      refine hK.out _ _ ⟨x,y,c1,c2,a1,a2,by simp [optV_true,optV_false,updF],by simpa [updF] using H8.out,by simpa [updF] using H9.out,?_⟩
      have:=HS.out;simpa [updF] using this
    · have f0:f 3=true:=HD.out ⟨3,.data⟩ (by simp) (by rfl)
      have f1:f 4=true:=HD.out ⟨4,.data⟩ (by simp) (by rfl)
      have f8:f 9=false:=by
       cases h:f 9 with
       | false=>rfl
       | true=>have:=(H9.out h).2;rw [HF.out] at this;cases this
      have st:=HS.out
      simp only [HF.out,f8,Bool.false_eq_true,if_false] at st
      simp only [f0,f1,optV_true]
      go_simp
      go_at_call 92
      refine (core_heldLows t HSM.out st).mono ?_
      rintro e w4 ⟨v1,rfl,st4⟩
      rw [←HG.out] at st4
      obtain ⟨a1',c1',rfl⟩:=ownsRow_form st4.row1
      have st5:=st4.settle 3 (by simp)
      have HS5:=ζh st5
      clear st st4 st5
      simp only [Act.put,List.setIfInBounds_toArray,List.set_cons_zero,List.set_cons_succ]
      refine hK.out _ _ ⟨x,y,c1,c1',a1,a1',by simp [optV_true,optV_false,updF,f0,f1],by simpa [updF] using H8.out,by simp [optV_true,optV_false,updF,f8],?_⟩
      have:=HS5.out;simpa [updF,f8] using this
    · have f8:f 8=false:=by
       cases h:f 8 with
       | false=>rfl
       | true=>have:=(H8.out h).1;rw [HF.out] at this;cases this
      have st:=HS.out
      simp only [HF.out,Bool.false_eq_true,if_false] at st
      have st5:=st.makeAt (B:=blkP W.heap.size #[.slice none 0 0] 170) 1 (by simp) (Mod.alloc' _ W (.cells #[.slice none 0 0] 170)) ⟨Blk.new W _ _,rfl⟩ (fun x hx=>by omega)
      have HS5:=ζh st5
      clear st st5 f8
      go_simp
      have f8:f 8=false:=by
       cases h:f 8 with
       | false=>rfl
       | true=>have:=(H8.out h).1;rw [HF.out] at this;cases this
      refine hK.out _ _ ⟨W.heap.size,y,c1,c2,a1,a2,by simp [optV_true,optV_false,updF],by simp [optV_true,optV_false,updF,f8],by simpa [updF] using H9.out,?_⟩
      have:=HS5.out;simpa [updF,f8] using this
    · have st:=HS.out
      simp only [HF.out,Bool.false_eq_true,if_false] at st
      have st5:=st.makeAt (B:=blkP W.heap.size #[.slice none 0 0] 170) 2 (by simp) (Mod.alloc' _ W (.cells #[.slice none 0 0] 170)) ⟨Blk.new W _ _,rfl⟩ (fun x hx=>by omega)
      have HS5:=ζh st5
      clear st st5
      go_simp
      have f9:f 9=false:=by
       cases h:f 9 with
       | false=>rfl
       | true=>have:=(H9.out h).1;rw [HF.out] at this;cases this
      refine hK.out _ _ ⟨x,W.heap.size,c1,c2,a1,a2,by simp [optV_true,optV_false,updF],by simpa [updF] using H8.out,by simp [optV_true,optV_false,updF,f9],?_⟩
      have:=HS5.out;simpa [updF,f9] using this
    · have f6:f 6=true:=HD.out ⟨6,.data⟩ (by simp) (by rfl)
      have f2:f 2=true:=HD.out ⟨2,.data⟩ (by simp) (by rfl)
      have st:=HS.out
      simp only [f6,HF.out,Bool.false_eq_true,if_false,if_true] at st
      have bx:=(st.blk (b:=x) (cs:=#[.slice none 0 0]) (T:=170) (by simp))
      have b1:=bx.cell 0
      have b2:=bx.frozen 0
      simp only [ζa,ζb] at b1
      have st5:=st.setAt (b:=x) (cs:=#[.slice none 0 0]) (T:=170) (j:=0) (v:=.slice a1 N c1) 1 (by simp)
      have HS5:=ζh st5
      simp only [f6,f2,optV_true]
      clear st st5 bx
      go_simp
      refine hK.out _ _ ⟨x,y,c1,c2,a1,a2,by simp [optV_true,optV_false,updF,f6,f2],by simp [optV_true,optV_false,updF,f6,f2],by simpa [updF] using H9.out,?_⟩
      have:=HS5.out;simpa [updF,f6,f2] using this
    · have f6:f 7=true:=HD.out ⟨7,.data⟩ (by simp) (by rfl)
      have f2:f 5=true:=HD.out ⟨5,.data⟩ (by simp) (by rfl)
      have st:=HS.out
      simp only [f6,HF.out,Bool.false_eq_true,if_false,if_true] at st
      have bx:=(st.blk (b:=y) (cs:=#[.slice none 0 0]) (T:=170) (by simp))
      have b1:=bx.cell 0
      have b2:=bx.frozen 0
      simp only [ζa,ζb] at b1
      have st5:=st.setAt (b:=y) (cs:=#[.slice none 0 0]) (T:=170) (j:=0) (v:=.slice a2 N c2) 2 (by simp)
      have HS5:=ζh st5
      simp only [f6,f2,optV_true]
      clear st st5 bx
      go_simp
      refine hK.out _ _ ⟨x,y,c1,c2,a1,a2,by simp [optV_true,optV_false,updF,f6,f2],by simpa [updF] using H8.out,by simp [optV_true,optV_false,updF,f6,f2],?_⟩
      have:=HS5.out;simpa [updF,f6,f2] using this
   case hend =>
    rintro f a W hall ⟨x,y,c1,c2,a1,a2,rfl,_,_,st⟩
    have f0:=hall 0 (by decide)
    have f1:=hall 1 (by decide)
    have f2:=hall 2 (by decide)
    have f3:=hall 3 (by decide)
    have f4:=hall 4 (by decide)
    have f5:=hall 5 (by decide)
    have f6:=hall 6 (by decide)
    have f7:=hall 7 (by decide)
    have f8:=hall 8 (by decide)
    have f9:=hall 9 (by decide)
    simp only [f0,f1,f2,f3,f4,f5,f6,f7,f8,f9,if_true,optV_true] at st ⊢
    clear f0 f1 f2 f3 f4 f5 f6 f7 f8 f9 hall b0 h0
    have h8:=core_h8 st
    have hbox:=(st.blk (b:=w.heap.size) (cs:=#[.pointer (some ⟨K.b,0,none⟩)]) (T:=51) (by simp)).cell 0
    simp only [ζa,ζb] at hbox
    have hor:=ζh (c_order gs gv n HN.out st (List.mem_cons_of_mem _ (List.mem_cons_of_mem _ (List.mem_cons_of_mem _ (List.mem_cons_of_mem _ (List.mem_cons_of_mem _ HV.out))))) HNN.out)
    have STW:=ζh st
    clear st
    go_wp2_with fail
    refine hor.out.mono ?_
    rintro e w6 ⟨u,rfl,st6⟩
    obtain ⟨oa,oc,rfl⟩:=ownsRow_form st6.row1
    obtain ⟨L,hL⟩:∃ L,L=Gen.orderG c.gens gs:=⟨_,rfl⟩
    have hr:=HRN.out
    rw [←hL] at st6 hr ⊢
    have HRL:=ζh hr
    clear hL hr hbox h8
    go_upto_region 5 with fail
    obtain ⟨wo,hnwo⟩:∃ wo,wo=w6.alloc (.cells #[.slice oa L.length oc] 30):=⟨_,rfl⟩
    have stwo:=(st6).local (cs:=#[.slice oa L.length oc]) (T:=30)
    rw [←hnwo] at stwo ⊢
    clear hnwo
    have hin:=coreInv stwo
    have hNt:N=c.tree.length:=by rw [HG.out,hin.gl]
    have hf2:∀ W,Step w0 F0 (coreP K c::blkP w6.heap.size #[.slice oa L.length oc] 30::rowP 3 1 (.slice oa L.length oc) L.length (L.map encI)::blkP x #[.slice a1 N c1] 170::blkP y #[.slice a2 N c2] 170::rowP 4 1 (.slice a1 N c1) N ((c.held t GuM.min).map Value.bool)::rowP 4 1 (.slice a2 N c2) N ((c.held t GuM.low).map Value.bool)::blkP w.heap.size #[.pointer (some ⟨K.b,0,none⟩)] 51::ls) W →
     ∀ g:Int,0≤g∧g < c.tree.length→Calls Tryz.prog 168 (#[.int .i64 g]++#[.pointer (some ⟨x,0,none⟩),.pointer (some ⟨y,0,none⟩)]) W fun e W'=>e=.returned (.bool (CoM.heldB (c.held t GuM.min) g||CoM.heldB (c.held t GuM.low) g))∧W=W' :=
     fun W hW g hg=>ev2_any (c.held t GuM.min) (c.held t GuM.low) (.slice a1 N c1) (.slice a2 N c2) N x y g W (hW.rowOf (by simp)) (hW.rowOf (by simp)) (hW.blk (by simp)) (hW.blk (by simp)) (by rw [hNt];exact hg)
    have hf3:∀ W,Step w0 F0 (coreP K c::blkP w6.heap.size #[.slice oa L.length oc] 30::rowP 3 1 (.slice oa L.length oc) L.length (L.map encI)::blkP x #[.slice a1 N c1] 170::blkP y #[.slice a2 N c2] 170::rowP 4 1 (.slice a1 N c1) N ((c.held t GuM.min).map Value.bool)::rowP 4 1 (.slice a2 N c2) N ((c.held t GuM.low).map Value.bool)::blkP w.heap.size #[.pointer (some ⟨K.b,0,none⟩)] 51::ls) W →
     ∀ g:Int,0≤g∧g < c.tree.length→Calls Tryz.prog 169 (#[.int .i64 g]++#[.pointer (some ⟨x,0,none⟩)]) W fun e W'=>e=.returned (.bool (CoM.heldB (c.held t GuM.min) g))∧W=W' :=
     fun W hW g hg=>ev3_any (c.held t GuM.min) (.slice a1 N c1) N x g W (hW.rowOf (by simp)) (hW.blk (by simp)) (by rw [hNt];exact hg)
    have hp1:=core_pass _ 168 _ L (.slice oa L.length oc) L.length w6.heap.size w.heap.size stwo (by simp) (by simp) (by simp) rfl (enters_of Tryz.func168 (by kernel_rfl) rfl) hf2
    have HP1:=ζh hp1
    have HF3:=ζh hf3
    clear hin hNt hf2 hf3 hp1 stwo
    cases h1:c.pass (fun g=>CoM.heldB (c.held t GuM.min) g||CoM.heldB (c.held t GuM.low) g) L with
    | some c' =>
      rw [h1] at HP1
      have hr:=HRL.out
      rw [h1] at hr
      have HR1:=ζh hr
      clear h1 hr
      go_wp2_with fail
      refine HP1.out.mono ?_
      rintro e w7 ⟨rfl,st7⟩
      simp only [Option.isSome_some,Option.getD_some] at st7 ⊢
      have HS7:=ζh st7
      clear st7
      go_wp2_with fail
      go_ret
      rw [HR1.out]
      exact ⟨rfl,HS7.out.drop2.drop2.drop2.drop2.drop2.drop2.drop2⟩
    | none =>
      rw [h1] at HP1
      have hr:=HRL.out
      rw [h1] at hr
      simp only at hr
      have HR1:=ζh hr
      clear h1 hr
      cases all with
      | false =>
        go_wp2_with fail
        refine HP1.out.mono ?_
        rintro e w7 ⟨rfl,st7⟩
        simp only [Option.isSome_none,Option.getD_none] at st7 ⊢
        have HS7:=ζh st7
        clear st7
        go_wp2_with fail
        go_ret
        rw [HR1.out,if_neg (by decide)]
        exact ⟨rfl,HS7.out.drop2.drop2.drop2.drop2.drop2.drop2.drop2⟩
      | true =>
        go_wp2_with fail
        refine HP1.out.mono ?_
        rintro e w7 ⟨rfl,st7⟩
        simp only [Option.isSome_none,Option.getD_none] at st7 ⊢
        have hp3:=core_pass _ 169 _ L (.slice oa L.length oc) L.length w6.heap.size w.heap.size st7 (by simp) (by simp) (by simp) rfl (enters_of Tryz.func169 (by kernel_rfl) rfl) HF3.out
        have HP3:=ζh hp3
        clear st7 hp3
        go_wp2_with fail
        refine HP3.out.mono ?_
        rintro e w8 ⟨rfl,st8⟩
        have HS8:=ζh st8
        clear st8
        go_wp2_with fail
        go_ret
        have e9:R=c.pass (fun g=>CoM.heldB (c.held t GuM.min) g) L:=by have:=HR1.out;simpa using this
        rw [e9]
        exact ⟨rfl,HS8.out.drop2.drop2.drop2.drop2.drop2.drop2.drop2⟩
theorem core_Evict (t:Int) (hsm:∀ g,c.mem g≤33554432) (hN:c.gens.length≤1000000) (st:Step w0 F0 (coreP K c::ls) w) :
 Calls Tryz.prog 98 #[.pointer (some ⟨K.b,0,none⟩),.int .i64 t] w fun e w'=>e=.returned (.bool (c.evict1 t).isSome)∧Step w0 F0 (coreP K ((c.evict1 t).getD c)::ls) w':=by
 have h0:=core_h0 st
 have hbe:=ζh (c_below t st)
 have HSM:=ζh hsm
 have HN:=ζh hN
 unfold CoM.evict1
 clear hsm hN st
 go_enter Tryz.func98,Tryz.ntmps98
 go_wp2_with fail
 refine hbe.out.mono ?_
 rintro e w1 ⟨v,rfl,st1⟩
 have hev:=ζh (core_evict t (c.below t) v _ true HSM.out HN.out st1 List.mem_cons_self rfl)
 clear st1
 go_wp2_with fail
 refine hev.out.mono ?_
 rintro e w2 ⟨rfl,st2⟩
 have HS2:=ζh st2
 clear st2
 go_wp2_with fail
 go_ret
 exact ⟨rfl,HS2.out.drop2⟩
end

section
open Cnt (CU ofU addU tryU giveU tryEU tryGU fullU lessU chainB groupB rightB amountB)
def UseOk (U:CU):Prop:=U.length=64∧∀ x∈U,0≤x.1
theorem addU_len (n:Int) (U:CU) (g:Int):(addU n U g).length=U.length:=by unfold addU;simp
theorem foldl_addU_len (n:Int):∀ (c:List Int) (U:CU),(c.foldl (addU n) U).length=U.length
 | [],_=>rfl
 | g::c,U=>by rw [List.foldl_cons,foldl_addU_len n c,addU_len]
theorem ofU_get {U:CU} {g:Int} (hg:groupB g=true) (hl:U.length=64):∃ h:g.toNat < U.length,ofU U g=U[g.toNat]:=by
 unfold ofU
 rw [if_pos hg]
 unfold groupB at hg
 simp only [Bool.and_eq_true,decide_eq_true_eq] at hg
 refine ⟨by omega,?_⟩
 rw [List.getD_eq_getElem?_getD,ζg (by omega),Option.getD_some]
theorem ofU_addU {U:CU} (hl:U.length=64) (n:Int) {g:Int} (hg:groupB g=true) (x:Int):ofU (addU n U g) x=if x=g then ((ofU U g).1+n,(ofU U g).2) else ofU U x:=by
 by_cases hx:groupB x=true
 · have e:ofU (addU n U g) x=(addU n U g).getD x.toNat (0,0):=by unfold ofU;rw [if_pos hx]
   have e2:ofU U x=U.getD x.toNat (0,0):=by unfold ofU;rw [if_pos hx]
   rw [e,e2]
   unfold addU
   unfold groupB at hx hg
   simp only [Bool.and_eq_true,decide_eq_true_eq] at hx hg
   rw [List.getD_eq_getElem?_getD,List.getElem?_set]
   by_cases hxg:x=g
   · subst hxg;rw [if_pos rfl,if_pos (by omega),if_pos rfl];rfl
   · rw [if_neg (by omega),if_neg hxg,List.getD_eq_getElem?_getD]
 · have hx':¬ (groupB x=true):=hx
   unfold ofU
   rw [if_neg hx',if_neg (by rintro rfl;exact hx hg),if_neg hx']
theorem ofU_fold (n:Int):∀ (c:List Int) (U:CU),U.length=64→(∀ g∈c,groupB g=true)→∀ x,ofU (c.foldl (addU n) U) x=((ofU U x).1+n * (c.count x:Int),(ofU U x).2)
 | [],U,_,_,x=>by simp
 | g::c,U,hl,hc,x=>by
   rw [List.foldl_cons,ofU_fold n c _ (by rw [addU_len,hl]) (fun y hy=>hc y (List.mem_cons_of_mem _ hy)) x,ofU_addU hl n (hc g List.mem_cons_self) x]
   by_cases hx:x=g
   · subst hx
     rw [if_pos rfl,List.count_cons_self]
     simp only [Prod.mk.injEq,and_true]
     push_cast
     rw [Int.mul_add];omega
   · rw [if_neg hx,List.count_cons_of_ne (fun h=>hx h.symm)]
theorem ext_ofU {U V:CU} (hU:U.length=64) (hV:V.length=64) (h:∀ g,groupB g=true→ofU U g=ofU V g):U=V:=by
 refine List.ext_getElem (by rw [hU,hV]) (fun i h1 h2=>?_)
 have hg:groupB (i:Int)=true:=by unfold groupB;simp;omega
 have:=h i hg
 obtain ⟨_,e1⟩:=ofU_get hg hU
 obtain ⟨_,e2⟩:=ofU_get hg hV
 rw [e1,e2] at this
 simpa using this
theorem chain_groups {c:List Int} (h:chainB c=true):∀ g∈c,groupB g=true:=by
 unfold chainB at h
 simp only [Bool.and_eq_true,List.all_eq_true] at h
 intro g hg
 have:=h.1 g hg
 simpa using this
theorem tryEU_zero {U:CU} {c:List Int} (h:tryEU U c=0):chainB c=true∧fullU U c < 0:=by
 unfold tryEU at h
 split at h
 · rename_i hc
   split at h
   · omega
   · exact ⟨hc,by omega⟩
 · omega
theorem give_try {U:CU} (hU:UseOk U) {c:List Int} (h:tryEU U c=0):giveU (tryU U c) c 1=U:=by
 obtain ⟨hc,hf⟩:=tryEU_zero h
 have hgr:=chain_groups hc
 have ht:tryU U c=c.foldl (addU 1) U:=by
  unfold tryU
  rw [if_pos (by simp [hc];omega)]
 rw [ht]
 have hlen:=foldl_addU_len 1 c U
 have hless:lessU (c.foldl (addU 1) U) 1 c=false:=by
  unfold lessU
  rw [List.any_eq_false]
  intro g hg
  rw [ofU_fold 1 c U hU.1 hgr]
  obtain ⟨hlt,e⟩:=ofU_get (hgr g hg) hU.1
  have h0:=hU.2 _ (List.getElem_mem hlt)
  have hcn:0 < c.count g:=List.count_pos_iff.2 hg
  simp only [decide_eq_true_eq]
  rw [e]
  omega
 unfold giveU
 rw [if_pos (by rw [Cnt.rightB_one,hc,hless];rfl)]
 refine ext_ofU (by rw [foldl_addU_len,hlen,hU.1]) hU.1 (fun g _=>?_)
 rw [ofU_fold (-1) c _ (by rw [hlen,hU.1]) hgr,ofU_fold 1 c U hU.1 hgr]
 simp only [Prod.ext_iff,and_true]
 omega
theorem giveU_le {U:CU} (hU:U.length=64) (c:List Int) (g:Int):(ofU (giveU U c 1) g).1≤(ofU U g).1:=by
 unfold giveU
 split
 · rename_i h
   rw [Cnt.rightB_one,Bool.and_eq_true] at h
   rw [ofU_fold (-1) c U hU (chain_groups h.1)]
   simp only
   omega
 · exact Int.le_refl _
theorem giveU_len (U:CU) (c:List Int) (n:Int):(giveU U c n).length=U.length:=by
 unfold giveU
 split
 · exact foldl_addU_len _ _ _
 · rfl
theorem tryU_len (U:CU) (c:List Int):(tryU U c).length=U.length:=by
 unfold tryU
 split
 · exact foldl_addU_len _ _ _
 · rfl
theorem tryU_le {U:CU} (hU:U.length=64) {c:List Int} (hn:c.Nodup) (g:Int):(ofU (tryU U c) g).1≤(ofU U g).1+1:=by
 unfold tryU
 split
 · rename_i h
   rw [Bool.and_eq_true] at h
   rw [ofU_fold 1 c U hU (chain_groups h.1)]
   have:=List.nodup_iff_count.1 hn g
   simp only
   omega
 · omega
theorem tryU_fail {U:CU} {c:List Int} (h:tryEU U c≠0):tryU U c=U:=by
 unfold tryEU at h
 unfold tryU
 split at h
 · rename_i hc
   split at h
   · rename_i hf;rw [if_neg (by simp [hf])]
   · exact absurd rfl h
 · rename_i hc;rw [if_neg (by simp [hc])]
theorem UseOk.give {U:CU} (h:UseOk U) (c:List Int):UseOk (giveU U c 1):=by
 refine ⟨by rw [giveU_len,h.1],fun x hx=>?_⟩
 obtain ⟨i,hi,rfl⟩:=List.mem_iff_getElem.1 hx
 have hg:groupB (i:Int)=true:=by rw [giveU_len,h.1] at hi;unfold groupB;simp;omega
 obtain ⟨hlt,e⟩:=ofU_get hg (U:=giveU U c 1) (by rw [giveU_len,h.1])
 simp only [Int.toNat_natCast] at e
 rw [←e]
 obtain ⟨hlt',e'⟩:=ofU_get hg h.1
 have h0:=h.2 _ (List.getElem_mem hlt')
 unfold giveU
 split
 · rename_i hc
   rw [Bool.and_eq_true] at hc
   obtain ⟨hc1,hc2⟩:=hc
   rw [Cnt.rightB_one] at hc1
   rw [ofU_fold (-1) c U h.1 (chain_groups hc1)]
   by_cases hm:(i:Int)∈c
   · have hnd:c.Nodup:=by
      unfold chainB at hc1
      rw [Bool.and_eq_true,decide_eq_true_eq] at hc1
      exact hc1.2
     have h1:=List.nodup_iff_count.1 hnd (i:Int)
     have h2:¬ (lessU U 1 c=true):=by simpa using hc2
     have h3:¬ (ofU U (i:Int)).1 < 1:=fun h=>h2 (List.any_eq_true.2 ⟨_,hm,decide_eq_true h⟩)
     simp only
     omega
   · rw [List.count_eq_zero.2 hm,e'];simpa using h0
 · rw [e'];exact h0
theorem dropA_len {κ α:Type} [DecidableEq κ] {k:κ}:∀ {l:List (κ × α)},k∈l.map (·.1)→(dropA k l).length+1=l.length:=by
 intro l
 induction l with
 | nil=>intro h;cases h
 | cons e l ih =>
   intro h
   simp only [dropA]
   split
   · rfl
   · rename_i hk
     rw [List.map_cons,List.mem_cons] at h
     rcases h with h | h
     · exact absurd h hk
     · simp only [List.length_cons]
       have:=ih h
       omega
theorem mem_order {G:Gen.GL} {gs:List Int} {id:Int} (h:id∈Gen.orderG G gs):id∈G.map (·.1):=by
 unfold Gen.orderG at h
 rw [(srt_perm _ _).mem_iff,List.mem_filter] at h
 have:=h.1
 unfold Gen.keysA at this
 rwa [(Gen.sortI_perm _).mem_iff] at this
structure Less (c c':CoM):Prop where
 tree:c'.tree=c.tree
 gens:∃ id,c'.gens=dropA id c.gens
 next:c'.pages.next=c.pages.next
 used:∃ ch,c'.fr.used=giveU c.fr.used ch 1
theorem putT_next (T:Pag.PT) (id p a:Int):(Pag.putT T id p a).next=T.next:=by
 unfold Pag.putT
 split
 · rfl
 · split<;>rfl
theorem out_less {c c':CoM} {id:Int} (h:c.out id=some c'):Less c c'∧c'.gens=dropA id c.gens:=by
 unfold CoM.out at h
 simp only at h
 split at h
 · injection h with h
   subst h
   have e1:(c.clean id (c.page id)).fr=c.fr∧(c.clean id (c.page id)).gens=c.gens∧(c.clean id (c.page id)).tree=c.tree∧(c.clean id (c.page id)).pages.next=c.pages.next:=by
    unfold CoM.clean
    split<;>exact ⟨rfl,rfl,rfl,rfl⟩
   obtain ⟨e1,e2,e3,e4⟩:=e1
   refine ⟨⟨e3,⟨id,?_⟩,?_,⟨c.chain (c.page id).owner,?_⟩⟩,?_⟩
   · show dropA id (c.clean id (c.page id)).gens=_;rw [e2]
   · show (Pag.putT _ id 0 0).next=_;rw [putT_next,e4]
   · show (CoM.giveSt (c.clean id (c.page id)).fr _ _).used=_;rw [e1];rfl
   · show dropA id (c.clean id (c.page id)).gens=_;rw [e2]
 · cases ha:c.away id (c.page id) (c.chain (c.page id).owner) with
   | none=>rw [ha] at h;cases h
   | some d =>
     rw [ha] at h
     injection h with h
     subst h
     have e1:d.fr=c.fr∧d.gens=c.gens∧d.tree=c.tree∧d.pages.next=c.pages.next:=by
      unfold CoM.away at ha
      split at ha
      · cases ha
      · split at ha
        · cases ha
        · injection ha with ha
          subst ha
          exact ⟨rfl,rfl,rfl,putT_next _ _ _ _⟩
     obtain ⟨e1,e2,e3,e4⟩:=e1
     refine ⟨⟨e3,⟨id,?_⟩,e4,⟨c.chain (c.page id).owner,?_⟩⟩,?_⟩
     · show dropA id d.gens=_;rw [e2]
     · show (CoM.giveSt d.fr _ _).used=_;rw [e1];rfl
     · show dropA id d.gens=_;rw [e2]
theorem pass_less {c c':CoM} {h:Int→Bool}:∀ {L:List Int},c.pass h L=some c'→Less c c'∧∃ id∈L,c'.gens=dropA id c.gens:=by
 intro L
 induction L with
 | nil=>intro e;rw [CoM.pass.eq_1] at e;cases e
 | cons id r ih =>
   intro e
   rw [CoM.pass.eq_2] at e
   split at e
   · obtain ⟨h1,x,hx,h2⟩:=ih e
     exact ⟨h1,x,List.mem_cons_of_mem _ hx,h2⟩
   · cases ho:c.out id with
     | some d =>
       rw [ho] at e
       injection e with e
       subst e
       obtain ⟨h1,h2⟩:=out_less ho
       exact ⟨h1,id,List.mem_cons_self,h2⟩
     | none =>
       rw [ho] at e
       obtain ⟨h1,x,hx,h2⟩:=ih e
       exact ⟨h1,x,List.mem_cons_of_mem _ hx,h2⟩
theorem evict_less {c c':CoM} {t:Int} {gs:List Int} {all:Bool} (h:c.evict t gs all=some c'):Less c c'∧c'.gens.length+1=c.gens.length:=by
 have key:∀ hh,c.pass hh (Gen.orderG c.gens gs)=some c'→Less c c'∧c'.gens.length+1=c.gens.length:=by
  intro hh e
  obtain ⟨h1,id,hid,h2⟩:=pass_less e
  exact ⟨h1,by rw [h2];exact dropA_len (mem_order hid)⟩
 unfold CoM.evict at h
 split at h
 · split at h
   · rename_i c1 e
     injection h with h
     subst h
     exact key _ e
   · split at h
     · exact key _ h
     · cases h
 · cases h
structure Small (N:Nat) (c:CoM):Prop where
 gens:c.gens.length≤N
 mem:∀ g,c.mem g≤N
 next:0≤c.pages.next∧c.pages.next≤N
 use:UseOk c.fr.used
theorem Small.less {N:Nat} {c c':CoM} (h:Small N c) (hl:Less c c'):Small N c':=by
 obtain ⟨h1,⟨id,h2⟩,h3,⟨ch,h4⟩⟩:=hl
 refine ⟨?_,fun g=>?_,by rw [h3];exact h.next,by rw [h4];exact h.use.give ch⟩
 · rw [h2];exact Nat.le_trans (Pag.dropA_sub id c.gens).length_le h.gens
 · unfold CoM.mem
   rw [h4]
   exact Int.le_trans (giveU_le h.use.1 ch g) (h.mem g)
theorem Small.evict1 {N:Nat} {c c':CoM} {t:Int} (h:Small N c) (he:c.evict1 t=some c'):Small N c'∧c'.gens.length+1=c.gens.length:=by
 obtain ⟨h1,h2⟩:=evict_less he
 exact ⟨h.less h1,h2⟩
theorem CoM.same (c:CoM):({ c with fr:={ c.fr with used:=c.fr.used } }:CoM)=c:=rfl
theorem co_try_give {c:CoM} (h:UseOk c.fr.used) {ch:List Int} (he:tryEU c.fr.used ch=0):({ c with fr:={ c.fr with used:=giveU (tryU c.fr.used ch) ch 1 } }:CoM)=c:=by rw [give_try h he]
theorem co_try_fail {c:CoM} {ch:List Int} (he:tryEU c.fr.used ch≠0):({ c with fr:={ c.fr with used:=tryU c.fr.used ch } }:CoM)=c:=by rw [tryU_fail he]
end
end Go.Proofs.YtkfoeonggmlebaaGreatDoor
