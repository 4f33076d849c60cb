/-
  Contracts of the program's functions, and plain facts, towards the laws of millpondtop. No condition beyond those that each theorem bears.
-/
import Derived.Lib.SliceRun
import Derived.Test.YtkfoeonggmlebaaGreatDoorQ05
import Derived.Test.YtkfoeonggmlebaaGreatDoorQAA
set_option maxRecDepth 100000
set_option maxHeartbeats 4000000
namespace Go.Proofs.YtkfoeonggmlebaaGreatDoor
section
open Go.RowKit
structure TestAt (p:Int→Bool) (fn:Nat) (lb:Array Value) (g:Nat) (w:World):Prop where
 call:∀ (x:Int) (w':World),Mod (fun b=>b=g) w w'→Calls Tryz.prog fn (#[.int .i64 x]++lb) w' fun e w''=>e=.returned (.bool (p x))∧Mod (fun _=>False) w' w''
 enter:∀ (args:Array Value) (w':World),(callFunc fn args).run Tryz.prog w'=.ok (.enter fn args) w'
theorem TestAt.at {p:Int→Bool} {fn:Nat} {lb:Array Value} {g:Nat} {w w':World} (h:TestAt p fn lb g w) (hm:Mod (fun b=>b=g) w w'):TestAt p fn lb g w' :=
 ⟨fun x w'' h'=>h.call x w'' (hm.trans h'),h.enter⟩
theorem RowI.take {w:World} {g cap:Nat} {A B:List Int} (h:RowI w g cap (A++B)):RowI w g cap A:=by
 unfold RowI at *
 rcases id h.2 with ⟨h0,_⟩ | ⟨g',cap',cur,hv,hb,hg,h1,h2,h3,h4⟩
 · cases h0
 · injection hv with e1 e2 e3
   injection e1 with e1
   injection e1 with e1 _ _
   subst e1 e3
   refine ⟨by simp,.inr ⟨_,_,cur,rfl,hb,hg,by simp at h1;omega,h2,h3,?_⟩⟩
   have:=congrArg (List.take (A.length * 1)) h4
   simp only [List.map_append,List.length_append,Nat.mul_one] at this h4 ⊢
   rw [List.take_left' (by simp),List.take_take,Nat.min_eq_left (by omega)] at this
   exact this
def firstP (p:Int→Bool) (xs:List Int):Int:=if xs.any p then (xs.findIdx p:Int) else -1
theorem firstP_at {p:Int→Bool} {xs:List Int} {k:Nat} {x:Int} (hn:∀ y∈xs.take k,p y=false) (hk:xs[k]?=some x) (hp:p x=true):firstP p xs=k:=by
 have hlt:=(ζi.1 hk).1
 have hx:=(ζi.1 hk).2
 unfold firstP
 rw [if_pos (List.any_eq_true.2 ⟨x,ζm hk,hp⟩)]
 congr 1
 rw [List.findIdx_eq hlt]
 refine ⟨by rw [hx];exact hp,fun j hj=>?_⟩
 have hjl:j < (xs.take k).length:=by rw [List.length_take];omega
 have:=hn _ (List.getElem_mem hjl)
 rwa [List.getElem_take] at this
theorem ixfunc_any (p:Int→Bool) (fn:Nat) (lb:Array Value) (g cap:Nat) (xs:List Int) (w:World) (hrow:RowI w g cap xs) (hc:TestAt p fn lb g w) :
 Calls Tryz.prog 201 #[.slice (some ⟨g,0,none⟩) xs.length cap,.func (.func fn) #[] lb] w fun e w'=>e=.returned (.int .i64 (firstP p xs))∧Mod (fun _=>False) w w':=by
 obtain ⟨hlc,hmax⟩:=hrow.few
 unfold maxLen at hmax
 have henter:=hc.enter
 have HC:=ζh hc
 obtain ⟨r,hr⟩:∃ r,r=firstP p xs:=⟨_,rfl⟩
 rw [←hr]
 have HR:=ζh hr
 clear hc hr
 go_enter Tryz.func201,Tryz.ntmps201
 go_wp2_with fail
 go_loopw [8] (fun i wr=>∃ k:Nat,k≤xs.length∧i=.int .i64 k∧(∀ y∈xs.take k,p y=false)∧Mod (fun _=>False) w wr) (fun i _=>xs.length - (intOf i).toNat)
 case atStart=>exact ⟨0,by omega,rfl,(fun x hx=>by simp at hx),Mod.refl _ _⟩
 case round =>
  obtain ⟨k,hk,rfl,hn,hm⟩:=hrel
  obtain ⟨wo,rfl⟩:∃ wo:World,wo=wr:=⟨_,rfl⟩
  by_cases hlt:k < xs.length
  · obtain ⟨x,hx⟩:∃ x,xs[k]?=some x:=⟨_,ζg hlt⟩
    have c0:=(hrow.keep hm (fun x=>x)).cell hx
    have hcl:=fun w' h'=>HC.out.call x w' h'
    have hi0:(0:Int)≤(k:Int):=by omega
    have hi1:(k:Int) < xs.length:=by omega
    have HX:=ζh hx
    have HN:=ζh hn
    clear hx hn
    go_wp2_with fail
    refine (hcl _ (hm.mono (fun _ x=>x.elim))).mono ?_
    cases hp:p x with
    | true =>
      rintro e w1 ⟨rfl,hm1⟩
      obtain rfl:r=k:=by rw [HR.out];exact firstP_at HN.out HX.out hp
      clear hp
      go_wp2_with fail
      go_ret
      exact ⟨rfl,hm.trans hm1⟩
    | false =>
      rintro e w1 ⟨rfl,hm1⟩
      have hn1:∀ y∈xs.take (k+1),p y=false:=by
       intro y hy
       rw [List.take_add_one,HX.out] at hy
       rcases List.mem_append.1 hy with h | h
       · exact HN.out y h
       · simp at h;rw [h];exact hp
      have HN1:=ζh hn1
      clear hp hn1
      go_wp2_with fail
      go_roundw
      case rel=>exact ⟨k+1,by omega,by go_num,HN1.out,hm.trans hm1⟩
      case measure=>simp [intOf];omega
  · obtain rfl:k=xs.length:=by omega
    rw [List.take_length] at hn
    obtain rfl:r=-1:=by
     rw [HR.out];unfold firstP
     rw [if_neg]
     rw [Bool.not_eq_true,List.any_eq_false]
     intro x hx;rw [hn x hx];simp
    clear hn
    go_wp2_with fail
    go_ret
    exact ⟨rfl,hm⟩
theorem RowI.cut {g cap:Nat}:∀ (vs:List Int) (o:Nat) {w:World} {K M:List Int},RowI w g cap (K++M)→K.length≤o→RowI (w.setCells g o (vs.map encI)) g cap K
 | [],o,w,K,M,h,_=>h.take
 | v::vs,o,w,K,M,h,ho=>by
   have h1:=h.set o v
   rw [List.set_append_right _ _ ho] at h1
   exact RowI.cut vs (o+1) h1 (by omega)
theorem mod_setCells {g:Nat}:∀ (vs:List Value) (o:Nat) (w:World),Mod (fun b=>b=g) w (w.setCells g o vs)
 | [],_,w=>Mod.refl _ w
 | v::vs,o,w=>(mod_setCell w g o v).trans (mod_setCells vs (o+1) _)
theorem findIdx_split {p:Int→Bool} {xs:List Int} (h:xs.any p=true):∃ K x D,xs=K++x::D∧p x=true∧(∀ y∈K,p y=false)∧firstP p xs=K.length:=by
 have hlt:xs.findIdx p < xs.length:=List.findIdx_lt_length.2 (List.any_eq_true.1 h)
 refine ⟨xs.take (xs.findIdx p),xs[xs.findIdx p],xs.drop (xs.findIdx p+1),?_,List.findIdx_getElem,?_,?_⟩
 · rw [←List.drop_eq_getElem_cons hlt,List.take_append_drop]
 · intro y hy
   obtain ⟨j,hj,rfl⟩:=List.mem_iff_getElem.1 hy
   rw [List.getElem_take]
   simp only [List.length_take] at hj
   simpa using List.not_of_lt_findIdx (p:=p) (i:=j) (by omega)
 · unfold firstP
   rw [if_pos h,List.length_take,Nat.min_eq_left (by omega)]
theorem zero_cell (w:World):(zeroValue 3).run Tryz.prog w=.ok (.int .i64 0) w:=by kernel_rfl
theorem delfunc_any (p:Int→Bool) (fn:Nat) (lb:Array Value) (g cap:Nat) (xs:List Int) (w:World) (hrow:RowI w g cap xs) (hc:TestAt p fn lb g w) :
 Calls Tryz.prog 141 #[.slice (some ⟨g,0,none⟩) xs.length cap,.func (.func fn) #[] lb] w fun e w' =>
  e=.returned (.slice (some ⟨g,0,none⟩) (xs.filter fun x=>!p x).length cap)∧Mod (fun b=>b=g) w w'∧RowI w' g cap (xs.filter fun x=>!p x):=by
 obtain ⟨hlc,hmax⟩:=hrow.few
 unfold maxLen at hmax
 have henter:=hc.enter
 have HC:=ζh hc
 have HI:=ζh (ixfunc_any p fn lb g cap xs w hrow hc)
 cases hany:xs.any p with
 | false =>
   have e1:firstP p xs=-1:=by unfold firstP;rw [hany];rfl
   have e2:(xs.filter fun x=>!p x)=xs:=by
    rw [List.filter_eq_self]
    intro x hx
    have:=List.any_eq_false.1 hany x hx
    simpa using this
   rw [e2]
   rw [e1] at HI
   clear hany e1 e2 hc
   go_enter Tryz.func141,Tryz.ntmps141
   go_wp2_with fail
   refine HI.out.mono ?_
   rintro e w1 ⟨rfl,hm1⟩
   go_wp2_with fail
   go_ret
   exact ⟨rfl,hm1.mono (fun _ x=>x.elim),hrow.keep hm1 (fun x=>x)⟩
 | true =>
   obtain ⟨K0,x0,D0,hxs,hp0,hK0,e1⟩:=findIdx_split hany
   rw [e1] at HI
   obtain ⟨i0,hi0⟩:∃ i0,i0=K0.length:=⟨_,rfl⟩
   rw [←hi0] at HI
   have HXS:=ζh hxs
   have hlen:i0 < xs.length:=by rw [hi0,hxs];simp
   have hfil:∀ L:List Int,(∀ y∈L,p y=false)→(L.filter fun x=>!p x)=L:=by
    intro L hL
    rw [List.filter_eq_self]
    intro x hx;rw [hL x hx];rfl
   have HF:=ζh hfil
   have HI0:=ζh hi0
   obtain ⟨n,hn⟩:∃ n,n=xs.length:=⟨_,rfl⟩
   rw [←hn] at hlen hlc HI ⊢
   have HN:=ζh hn
   clear hany e1 hc hfil hi0 hxs hn
   go_enter Tryz.func141,Tryz.ntmps141
   go_wp2_with fail
   refine HI.out.mono ?_
   rintro e w1 ⟨rfl,hm1⟩
   have d0:((i0:Int)==-1)=false:=by rw [beq_eq_false_iff_ne];omega
   go_wp2_with fail
   go_loopw [5,6] (fun i j wr=>∃ (a b:Nat) (M:List Int),i=.int .i64 (a:Int)∧j=.int .i64 (b:Int)∧b≤n∧a < b∧(a=((xs.take b).filter fun x=>!p x).length)∧b=a+M.length∧Mod (fun b=>b=g) w wr∧RowI wr g cap (((xs.take b).filter fun x=>!p x)++M++xs.drop b)) (fun _ j _=>n - (intOf j).toNat)
   case atStart =>
    have ht:xs.take (i0+1)=K0++[x0]:=by rw [HXS.out,HI0.out,List.take_append,List.take_of_length_le (by omega),Nat.add_sub_cancel_left];rfl
    have hf:((xs.take (i0+1)).filter fun x=>!p x)=K0:=by
     rw [ht,List.filter_append,HF.out K0 hK0,List.filter_cons_of_neg (by simp [hp0])];simp
    have hr1:=hrow.keep hm1 (fun x=>x)
    refine ⟨i0,i0+1,[x0],rfl,by go_num,by omega,by omega,by rw [hf,HI0.out],by simp,hm1.mono (fun _ x=>x.elim),?_⟩
    rw [hf]
    have:K0++[x0]++xs.drop (i0+1)=xs:=by rw [←ht,List.take_append_drop]
    rw [this]
    exact hr1
   case round =>
    obtain ⟨a,b,M,rfl,rfl,hb,hab,ha,hM,hm,hr⟩:=hrel
    obtain ⟨wo,rfl⟩:∃ wo:World,wo=wr:=⟨_,rfl⟩
    have HA:=ζh ha
    have HM:=ζh hM
    clear ha hM
    by_cases hlt:b < n
    · obtain ⟨x,hx⟩:∃ x,xs[b]?=some x:=⟨_,ζg (by rw [←HN.out];exact hlt)⟩
      have hd:xs.drop b=x::xs.drop (b+1):=by
       have h1:=(ζi.1 hx)
       rw [List.drop_eq_getElem_cons h1.1,h1.2]
      have ht:xs.take (b+1)=xs.take b++[x]:=by rw [List.take_add_one,hx];rfl
      obtain ⟨K,hK⟩:∃ K,K=(xs.take b).filter fun x=>!p x:=⟨_,rfl⟩
      have hKl:K.length=a:=by rw [hK,HA.out]
      rw [←hK,hd] at hr
      obtain ⟨m0,M0,rfl⟩:∃ m0 M0,M=m0::M0:=by
       cases M with
       | nil=>have:=HM.out;simp at this;omega
       | cons m0 M0=>exact ⟨m0,M0,rfl⟩
      have hlb:(K++m0::M0).length=b:=by rw [List.length_append,hKl,HM.out]
      have c0:=hr.cell (get_app (K++m0::M0) (xs.drop (b+1)) x)
      rw [hlb] at c0
      have hcl:=fun w' h'=>HC.out.call x w' h'
      have hi0:(0:Int)≤(b:Int):=by omega
      have hi1:(b:Int) < n:=by omega
      have hi2:(a:Int) < n:=by omega
      have hi3:(0:Int)≤(a:Int):=by omega
      have hfs:p x=true→((xs.take (b+1)).filter fun x=>!p x)=K:=fun h=>by rw [ht,List.filter_append,←hK,List.filter_cons_of_neg (by simp [h])];simp
      have hft:p x=false→((xs.take (b+1)).filter fun x=>!p x)=K++[x]:=fun h=>by rw [ht,List.filter_append,←hK,List.filter_cons_of_pos (by simp [h])];simp
      have HFS:=ζh hfs
      have HFT:=ζh hft
      have HKL:=ζh hKl
      have HR:=ζh hr
      clear hx hd ht hK hKl hlb hfs hft hr
      go_wp2_with fail
      refine (hcl _ hm).mono ?_
      cases hp:p x with
      | true =>
        have hnext:=HFS.out hp
        rintro e w2 ⟨rfl,hm2⟩
        have HNX:=ζh hnext
        clear hp hnext
        go_wp2_with fail
        go_roundw
        case rel =>
         refine ⟨a,b+1,m0::M0++[x],rfl,by go_num,by omega,by omega,by rw [HNX.out,HKL.out],by have:=HM.out;simp at this ⊢;omega,hm.trans (hm2.mono (fun _ x=>x.elim)),?_⟩
         rw [HNX.out]
         simpa using HR.out.keep hm2 (fun x=>x)
        case measure=>simp [intOf];omega
      | false =>
        have hnext:=HFT.out hp
        rintro e w2 ⟨rfl,hm2⟩
        have hr2:=HR.out.keep hm2 (fun x=>x)
        have f0:=hr2.frozen a
        have e0:=hr2.cell (j:=a) (x:=m0) (by rw [←HKL.out];simp)
        have hs:=hr2.set a x
        have he:(K++m0::M0++x::xs.drop (b+1)).set a x=(K++[x])++(M0++[x])++xs.drop (b+1):=by
         rw [←HKL.out,List.append_assoc,List.set_append_right _ _ (by omega),Nat.sub_self];simp
        rw [he] at hs
        have HNX:=ζh hnext
        have HS:=ζh hs
        clear hp hnext hs he hr2
        go_wp2_with fail
        go_roundw
        case rel =>
         refine ⟨a+1,b+1,M0++[x],by go_num,by go_num,by omega,by omega,by rw [HNX.out,List.length_append,HKL.out];rfl,by have:=HM.out;simp at this ⊢;omega,?_,?_⟩
         · exact (hm.trans (hm2.mono (fun _ x=>x.elim))).setCell (.inl rfl) _
         · rw [HNX.out];exact HS.out
        case measure=>simp [intOf];omega
    · obtain rfl:b=n:=by omega
      have hr1:RowI wo g cap ((xs.filter fun x=>!p x)++M):=by
       rw [HN.out,List.take_length,List.drop_length,List.append_nil] at hr
       exact hr
      have hal:a=(xs.filter fun x=>!p x).length:=by rw [HA.out,HN.out,List.take_length]
      have hcell:∀ j,j < b - a→(wo.cell? ⟨g,a+j,none⟩).isSome=true:=by
       intro j hj
       have hlt2:a+j < ((xs.filter fun x=>!p x)++M).length:=by rw [List.length_append,←hal];have:=HM.out;omega
       rw [hr1.cell (ζg hlt2)];rfl
      have hclr:=fun ty=>Lib.run_clear_slice (P:=Tryz.prog) wo 30 3 ty (.int .i64 0) Tryz.underlying30 zero_cell rfl rfl g a (b - a) (cap - a) (by omega) hcell (fun j _=>hr1.frozen _)
      have hcut:=RowI.cut (List.replicate (b - a) 0) a hr1 (by rw [←hal];exact Nat.le_refl _)
      rw [List.map_replicate] at hcut
      have HCUT:=ζh hcut
      have HAL:=ζh hal
      clear hr hr1 hcell hcut hal
      go_wp2_with fail
      go_ret
      exact ⟨by rw [←HAL.out];rfl,hm.trans (mod_setCells _ _ _),HCUT.out⟩
theorem delfunc_nil (fn:Nat) (lb:Array Value) (w:World) :
 Calls Tryz.prog 141 #[.slice none 0 0,.func (.func fn) #[] lb] w fun e w'=>e=.returned (.slice none 0 0)∧w=w':=by
 have hix:∀ w:World,Calls Tryz.prog 201 #[.slice none 0 0,.func (.func fn) #[] lb] w fun e w'=>e=.returned (.int .i64 (-1))∧w=w':=by
  intro w
  go_enter Tryz.func201,Tryz.ntmps201
  go_wp2_with fail
  go_loopw [8] (fun i wr=>i=.int .i64 0∧wr=w) (fun _ _=>0)
  case atStart=>exact ⟨rfl,rfl⟩
  case round =>
   obtain ⟨rfl,rfl⟩:=hrel
   go_wp2_with fail
   go_ret
   exact ⟨rfl,rfl⟩
 have HX:=ζh hix
 clear hix
 go_enter Tryz.func141,Tryz.ntmps141
 go_wp2_with fail
 refine (HX.out _).mono ?_
 rintro e w1 ⟨rfl,rfl⟩
 go_wp2_with fail
 go_ret
 exact ⟨rfl,rfl⟩
end
end Go.Proofs.YtkfoeonggmlebaaGreatDoor
