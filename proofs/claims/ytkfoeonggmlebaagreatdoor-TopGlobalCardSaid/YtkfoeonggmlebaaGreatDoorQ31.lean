/-
  Contracts of the program's functions, and plain facts, towards the laws of millpondtop. No condition beyond those that each theorem bears.
-/
import Derived.Test.YtkfoeonggmlebaaGreatDoorQ17
import Derived.Test.YtkfoeonggmlebaaGreatDoorQ19
import Derived.Test.YtkfoeonggmlebaaGreatDoorQ24
import Derived.Test.YtkfoeonggmlebaaGreatDoorQ29
import Derived.Test.YtkfoeonggmlebaaGreatDoorQ30
import Derived.Test.YtkfoeonggmlebaaGreatDoorQAA
set_option maxRecDepth 100000
set_option maxHeartbeats 4000000
namespace Go.Proofs.YtkfoeonggmlebaaGreatDoor
namespace Reg
open Go.RowKit Go.Shelf
attribute [local go_sem] Oper.semAt_some
theorem rg_cells {w:World} {a:Option Addr} {n c:Nat} {l:List Rg} (h:RowsAt ecRg 6 w (.slice a n c) l) {j:Nat} {x:Rg} (hj:l[j]?=some x):∃ b off,a=some ⟨b,off,none⟩ ∧
 w.cell? ⟨b,off+j * 6,none⟩=some (.int .i64 x.a)∧w.cell? ⟨b,off+j * 6+1,none⟩=some (.int .i64 x.b)∧w.cell? ⟨b,off+j * 6+2,none⟩=some (.int .i64 x.k) ∧
 w.cell? ⟨b,off+j * 6+3,none⟩=some (.int .i64 x.f)∧w.cell? ⟨b,off+j * 6+4,none⟩=some (.int .i64 x.i)∧w.cell? ⟨b,off+j * 6+5,none⟩=some (.bool x.wr):=by
 obtain ⟨a',cap,h1,h2,h3,h4⟩:=h
 injection h1 with e1 e2 e3
 subst e1
 obtain ⟨b,off,h5,h6⟩:=h4 j _ hj
 exact ⟨b,off,h5,by have:=h6 0 (by omega);simp only [Nat.add_zero] at this;exact this,h6 1 (by omega),h6 2 (by omega),h6 3 (by omega),h6 4 (by omega),h6 5 (by omega)⟩
theorem rg_load {w:World} {b:Nat} {x:Rg} {T:TypeId} (h:Blk w b (ecRg x).toArray T):w.cell? ⟨b,0,none⟩=some (.int .i64 x.a)∧w.cell? ⟨b,1,none⟩=some (.int .i64 x.b)∧w.cell? ⟨b,2,none⟩=some (.int .i64 x.k) ∧
 w.cell? ⟨b,3,none⟩=some (.int .i64 x.f)∧w.cell? ⟨b,4,none⟩=some (.int .i64 x.i)∧w.cell? ⟨b,5,none⟩=some (.bool x.wr) :=
 ⟨h.cell 0,h.cell 1,h.cell 2,h.cell 3,h.cell 4,h.cell 5⟩
theorem rightR_cons (z:Int) (x:Rg) (r:List Rg):rightR z (x::r)=(validR x&&decide (z≤x.a)&&rightR x.b r):=rfl
theorem rright_any (l:List Rg) (v:Value) (w:World) (h:RowsAt ecRg 6 w v l):Calls Tryz.prog 170 #[v] w fun e w'=>e=.returned (.bool (rightR 0 l))∧Mod (fun _=>False) w w':=by
 obtain ⟨a,c,rfl,hcap,hmax⟩:=Pro.rows_form h
 unfold maxLen at hmax
 obtain ⟨R,hR⟩:∃ R,R=rightR 0 l:=⟨_,rfl⟩
 rw [←hR]
 have HR:=ζh hR
 have HH:=ζh h
 clear hR h
 go_enter Tryz.func170,Tryz.ntmps170
 go_wp2_with fail
 go_loopw [3,8] (fun z i wr=>∃ (k:Nat) (y:Int),k≤l.length∧i=.int .i64 k∧z=.int .i64 y∧Hid (R=rightR y (l.drop k))∧Mod (fun _=>False) w wr) (fun _ i _=>l.length - (intOf i).toNat)
 case atStart=>exact ⟨0,0,by omega,rfl,rfl,HR,Mod.refl _ _⟩
 case round =>
  obtain ⟨k,y,hk,rfl,rfl,HRK,hm⟩:=hrel
  obtain ⟨wo,rfl⟩:∃ wo:World,wo=wr:=⟨_,rfl⟩
  by_cases hlt:k < l.length
  · have hkI:(k:Int) < l.length:=by omega
    have hkN:0≤(k:Int):=by omega
    obtain ⟨x,hx⟩:∃ x,l[k]?=some x:=⟨_,ζg hlt⟩
    have hdr:l.drop k=x::l.drop (k+1):=by rw [List.drop_eq_getElem_cons hlt];congr 1;have:=ζg hlt;rw [hx] at this;injection this with this;exact this.symm
    have hr:=HRK.out
    rw [hdr,rightR_cons] at hr
    obtain ⟨rb,ro,rfl,c0,c1,c2,c3,c4,c5⟩:=rg_cells (HH.out.keep ecRg_len hm (fun _ _ x=>x)) hx
    have hva:=fun w=>rvalid_any x w
    unfold ecRg at hva
    have HVA:=ζh hva
    have HRD:=ζh hr
    clear hx hdr hr hva
    go_upto_region 5 with fail
    have hb:=Blk.new wo (ecRg x).toArray 131
    have hm1:=Mod.alloc' (fun _=>False) wo (.cells (ecRg x).toArray 131)
    unfold ecRg at hb hm1
    obtain ⟨wx,hwx⟩:∃ wx,wx=wo.alloc (.cells #[.int .i64 x.a,.int .i64 x.b,.int .i64 x.k,.int .i64 x.f,.int .i64 x.i,.bool x.wr] 131):=⟨_,rfl⟩
    rw [←hwx] at hb hm1 ⊢
    obtain ⟨e0,e1,e2,e3,e4,e5⟩:=rg_load (x:=x) hb
    have HB:=ζh hb
    clear hb hwx c0 c1 c2 c3 c4 c5
    cases hvx:validR x with
    | false =>
      have hr:R=false:=by rw [HRD.out,hvx,Bool.false_and,Bool.false_and]
      have HRN:=ζh hr
      have hva:=HVA.out wx
      rw [hvx] at hva
      have HVX:=ζh hva
      clear hr hva hvx
      go_wp2_with fail
      refine HVX.out.mono ?_
      rintro e w2 ⟨rfl,hm2⟩
      go_wp2_with fail
      go_ret
      rw [HRN.out]
      exact ⟨rfl,(hm.trans hm1).trans hm2⟩
    | true =>
      have hr:=HRD.out
      rw [hvx,Bool.true_and] at hr
      have HRN:=ζh hr
      have hva:=HVA.out wx
      rw [hvx] at hva
      have HVX:=ζh hva
      clear hr hva hvx
      by_cases hy:x.a < y
      · have dy:decide (x.a < y)=true:=decide_eq_true hy
        have hr:R=false:=by rw [HRN.out,decide_eq_false (by omega),Bool.false_and]
        have HRM:=ζh hr
        clear hr hy
        go_wp2_with fail
        refine HVX.out.mono ?_
        rintro e w2 ⟨rfl,hm2⟩
        have g0:=hm2.keeps e0 (fun x=>x)
        go_wp2_with fail
        go_ret
        rw [HRM.out]
        exact ⟨rfl,(hm.trans hm1).trans hm2⟩
      · have dy:decide (x.a < y)=false:=decide_eq_false hy
        have hr:R=rightR x.b (l.drop (k+1)):=by rw [HRN.out,decide_eq_true (by omega),Bool.true_and]
        have HRM:=ζh hr
        clear hr hy
        go_wp2_with fail
        refine HVX.out.mono ?_
        rintro e w2 ⟨rfl,hm2⟩
        have g0:=hm2.keeps e0 (fun x=>x)
        have g1:=hm2.keeps e1 (fun x=>x)
        have hM:=(hm.trans hm1).trans hm2
        clear hm hm1 hm2
        go_wp2_with fail
        go_roundw
        case rel=>exact ⟨k+1,x.b,by omega,by go_num,rfl,HRM,hM⟩
        case measure=>simp [intOf];omega
  · obtain rfl:k=l.length:=by omega
    have hr:R=true:=by rw [HRK.out,List.drop_length];rfl
    have HRM:=ζh hr
    clear hr
    go_wp2_with fail
    go_ret
    rw [HRM.out]
    exact ⟨rfl,hm⟩
theorem res_key {fn:Func} {p:Tmp} (h:fn.results=#[.cell p 190 ]) {tmps:Array Value} {w:World} {g:Nat} {x y:Int} (hp:tmps.getD p undef=.pointer (some ⟨g,0,none⟩)) (hb:Blk w g #[.int .i64 x,.int .i64 y] 190) :
 (results fn tmps).run Tryz.prog w=.ok (.agg #[.int .i64 x,.int .i64 y]) w:=by
 have hp':tmps[p]?.getD undef=.pointer (some ⟨g,0,none⟩):=by simpa using hp
 have x0:w.cell? ⟨g,0,none⟩=some (.int .i64 x):=hb.cell 0
 have x1:w.cell? ⟨g,1,none⟩=some (.int .i64 y):=hb.cell 1
 have hl:(loadVar 190 ⟨g,0,none⟩).run Tryz.prog w=.ok (.agg #[.int .i64 x,.int .i64 y]) w:=by
  unfold loadVar
  simp [Tryz.isAgg190 ,go_sem,x0,x1]
 simp [results,h,hp',asAddr,hl]
theorem res_rg {fn:Func} {p:Tmp} (h:fn.results=#[.cell p 131 ]) {tmps:Array Value} {w:World} {g:Nat} {x:Rg} (hp:tmps.getD p undef=.pointer (some ⟨g,0,none⟩)) (hb:Blk w g (ecRg x).toArray 131) :
 (results fn tmps).run Tryz.prog w=.ok (.agg (ecRg x).toArray) w:=by
 have hp':tmps[p]?.getD undef=.pointer (some ⟨g,0,none⟩):=by simpa using hp
 obtain ⟨x0,x1,x2,x3,x4,x5⟩:=rg_load hb
 have hl:(loadVar 131 ⟨g,0,none⟩).run Tryz.prog w=.ok (.agg (ecRg x).toArray) w:=by
  unfold loadVar ecRg
  simp [Tryz.isAgg131 ,go_sem,x0,x1,x2,x3,x4,x5]
 simp [results,h,hp',asAddr,hl]
theorem res_rg2 {fn:Func} {p q:Tmp} (h:fn.results=#[.cell p 131,.tmp q]) {tmps:Array Value} {w:World} {g:Nat} {x:Rg} {n:Value} (hp:tmps.getD p undef=.pointer (some ⟨g,0,none⟩)) (hq:tmps.getD q undef=n) (hb:Blk w g (ecRg x).toArray 131) :
 (results fn tmps).run Tryz.prog w=.ok (.tuple #[.agg (ecRg x).toArray,n]) w:=by
 have hp':tmps[p]?.getD undef=.pointer (some ⟨g,0,none⟩):=by simpa using hp
 have hq':tmps[q]?.getD undef=n:=by simpa using hq
 obtain ⟨x0,x1,x2,x3,x4,x5⟩:=rg_load hb
 have hl:(loadVar 131 ⟨g,0,none⟩).run Tryz.prog w=.ok (.agg (ecRg x).toArray) w:=by
  unfold loadVar ecRg
  simp [Tryz.isAgg131 ,go_sem,x0,x1,x2,x3,x4,x5]
 simp [results,h,hp',hq',asAddr,hl]
theorem rkey_any (x:Rg) (p:Int) (hfit:x.k=2→0≤x.i∧0≤x.a∧x.a≤p∧x.i+p < 4611686018427387904) (w:World) :
 Calls Tryz.prog 114 #[.agg (ecRg x).toArray,.int .i64 p] w fun e w'=>e=.returned (.agg #[.int .i64 (keyR x p).1,.int .i64 (keyR x p).2])∧Mod (fun _=>False) w w':=by
 obtain ⟨R,hR⟩:∃ R,R=keyR x p:=⟨_,rfl⟩
 rw [←hR]
 unfold keyR at hR
 have hb:=Blk.new w (ecRg x).toArray 131
 have hm1:=Mod.alloc' (fun _=>False) w (.cells (ecRg x).toArray 131)
 unfold ecRg at hb hm1 ⊢
 by_cases hk:x.k=2
 · have d0:(x.k==2)=true:=by rw [hk];rfl
   rw [if_pos hk] at hR
   have hf:=hfit hk
   have e1:IntKind.i64.wrap (x.i+p)=x.i+p:=wrap_small _ (by omega) (by omega)
   have e2:IntKind.i64.wrap (x.i+p - x.a)=x.i+p - x.a:=wrap_small _ (by omega) (by omega)
   have HR:=ζh hR
   clear hR hk hf hfit
   have hbk:=Blk.new (w.alloc (.cells (ecRg x).toArray 131)) #[.int .i64 x.f,.int .i64 (x.i+p - x.a)] 190
   simp only [World.size_alloc] at hbk
   unfold ecRg at hbk
   have HBK:=ζh hbk
   clear hbk
   go_enter Tryz.func114,Tryz.ntmps114
   go_wp2_with fail
   refine bodyPost_ret (res_key rfl rfl HBK.out) rfl ?_
   rw [HR.out]
   exact ⟨rfl,hm1.alloc _⟩
 · have d0:(x.k==2)=false:=by rw [beq_eq_false_iff_ne];exact hk
   rw [if_neg hk] at hR
   have HR:=ζh hR
   clear hR hk hfit
   have hbk:=Blk.new (w.alloc (.cells (ecRg x).toArray 131)) #[.int .i64 (-1),.int .i64 p] 190
   simp only [World.size_alloc] at hbk
   unfold ecRg at hbk
   have HBK:=ζh hbk
   clear hbk
   go_enter Tryz.func114,Tryz.ntmps114
   go_wp2_with fail
   refine bodyPost_ret (res_key rfl rfl HBK.out) rfl ?_
   rw [HR.out]
   exact ⟨rfl,hm1.alloc _⟩
theorem rpart_any (x:Rg) (p q:Int) (hfit:x.k=2→0≤x.i∧0≤x.a∧x.a≤p∧x.i+p < 4611686018427387904) (w:World) :
 Calls Tryz.prog 176 #[.agg (ecRg x).toArray,.int .i64 p,.int .i64 q] w fun e w'=>e=.returned (.agg (ecRg (partR x p q)).toArray)∧Mod (fun _=>False) w w':=by
 obtain ⟨R,hR⟩:∃ R,R=partR x p q:=⟨_,rfl⟩
 rw [←hR]
 unfold partR at hR
 by_cases hk:x.k=2
 · have d0:(x.k==2)=true:=by rw [hk];rfl
   rw [if_pos hk] at hR
   have hf:=hfit hk
   have e1:IntKind.i64.wrap (p - x.a)=p - x.a:=wrap_small _ (by omega) (by omega)
   have e2:IntKind.i64.wrap (x.i+(p - x.a))=x.i+(p - x.a):=wrap_small _ (by omega) (by omega)
   have HR:=ζh hR
   clear hR hk hf hfit
   unfold ecRg
   have hbk:=Blk.new (w.alloc (.cells (ecRg ⟨p,q,x.k,x.f,x.i+(p - x.a),x.wr⟩).toArray 131)) (ecRg ⟨p,q,x.k,x.f,x.i+(p - x.a),x.wr⟩).toArray 131
   simp only [World.size_alloc] at hbk
   have HBK:=ζh hbk
   clear hbk
   go_enter Tryz.func176,Tryz.ntmps176
   go_wp2_with fail
   refine bodyPost_ret (res_rg (x:=⟨p,q,x.k,x.f,x.i+(p - x.a),x.wr⟩) rfl rfl HBK.out) rfl ?_
   rw [HR.out]
   exact ⟨rfl,(Mod.alloc' _ _ _).alloc _⟩
 · have d0:(x.k==2)=false:=by rw [beq_eq_false_iff_ne];exact hk
   rw [if_neg hk] at hR
   have HR:=ζh hR
   clear hR hk hfit
   unfold ecRg
   have hbk:=Blk.new (w.alloc (.cells (ecRg ⟨p,q,x.k,x.f,x.i,x.wr⟩).toArray 131)) (ecRg ⟨p,q,x.k,x.f,x.i,x.wr⟩).toArray 131
   simp only [World.size_alloc] at hbk
   have HBK:=ζh hbk
   clear hbk
   go_enter Tryz.func176,Tryz.ntmps176
   go_wp2_with fail
   refine bodyPost_ret (res_rg (x:=⟨p,q,x.k,x.f,x.i,x.wr⟩) rfl rfl HBK.out) rfl ?_
   rw [HR.out]
   exact ⟨rfl,(Mod.alloc' _ _ _).alloc _⟩
end Reg

namespace Reg
open Go.RowKit Go.Shelf
attribute [local go_sem] Oper.semAt_some
theorem rg_store {w:World} {g:Nat} {x:Rg} (h:Blk w g (ecRg x).toArray 131) (y:Rg) :
 (storeVar 131 ⟨g,0,none⟩ (.agg (ecRg y).toArray)).run Tryz.prog w=.ok () (w.setRow g (ecRg y).toArray)∧Blk (w.setRow g (ecRg y).toArray) g (ecRg y).toArray 131∧Mod (fun b=>b=g) w (w.setRow g (ecRg y).toArray) :=
 ⟨run_storeVar_row w g 131 131 (ecRg x).toArray (ecRg y).toArray h (by rw [show (ecRg y).toArray.size=6 from rfl];kernel_rfl) rfl (by simp [ecRg,Value.oneCell']),Byt.Blk.setRow h,Byt.mod_setRow _ _ _⟩
structure RTest (p:Rg→Bool) (fn:Nat) (lb:Array Value) (w:World):Prop where
 call:∀ (x:Rg) (w':World),Mod (fun _=>False) w w'→Calls Tryz.prog fn (#[.agg (ecRg x).toArray]++lb) w' fun e w''=>e=.returned (.bool (p x))∧Mod (fun _=>False) w' w''
 enter:∀ (args:Array Value) (w':World),(callFunc fn args).run Tryz.prog w'=.ok (.enter fn args) w'
def firstR (p:Rg→Bool) (l:List Rg):Int:=if l.any p then (l.findIdx p:Int) else -1
theorem firstR_at {p:Rg→Bool} {l:List Rg} {k:Nat} {x:Rg} (hn:∀ y∈l.take k,p y=false) (hk:l[k]?=some x) (hp:p x=true):firstR p l=k:=by
 have hlt:=(ζi.1 hk).1
 have hx:=(ζi.1 hk).2
 unfold firstR
 rw [if_pos (List.any_eq_true.2 ⟨x,ζm hk,hp⟩)]
 congr 1
 rw [List.findIdx_eq hlt]
 refine ⟨by rw [hx];exact hp,fun j hj=>?_⟩
 refine hn _ ?_
 rw [List.mem_take_iff_getElem]
 exact ⟨j,by omega,rfl⟩
theorem firstR_none {p:Rg→Bool} {l:List Rg} (hn:∀ y∈l,p y=false):firstR p l=-1:=by
 unfold firstR
 rw [if_neg]
 rw [List.any_eq_true]
 rintro ⟨x,hx,hp⟩
 rw [hn x hx] at hp
 cases hp
theorem rixfunc_any (p:Rg→Bool) (fn:Nat) (lb:Array Value) (l:List Rg) (v:Value) (w:World) (h:RowsAt ecRg 6 w v l) (hc:RTest p fn lb w) :
 Calls Tryz.prog 172 #[v,.func (.func fn) #[] lb] w fun e w'=>e=.returned (.int .i64 (firstR p l))∧Mod (fun _=>False) w w':=by
 obtain ⟨a,c,rfl,hcap,hmax⟩:=Pro.rows_form h
 unfold maxLen at hmax
 have henter:=hc.enter
 obtain ⟨r,hr⟩:∃ r,r=firstR p l:=⟨_,rfl⟩
 rw [←hr]
 have HR:=ζh hr
 have HH:=ζh h
 have HC:=ζh hc
 clear hr h hc
 go_enter Tryz.func172,Tryz.ntmps172
 go_wp2_with fail
 go_loopw [8] (fun i wr=>∃ k:Nat,k≤l.length∧i=.int .i64 k∧(∀ y∈l.take k,p y=false)∧Mod (fun _=>False) w wr) (fun i _=>l.length - (intOf i).toNat)
 case atStart=>exact ⟨0,by omega,rfl,(fun y hy=>by simp at hy),Mod.refl _ _⟩
 case round =>
  obtain ⟨k,hk,rfl,hn,hm⟩:=hrel
  obtain ⟨wo,rfl⟩:∃ wo:World,wo=wr:=⟨_,rfl⟩
  by_cases hlt:k < l.length
  · obtain ⟨x,hx⟩:∃ x,l[k]?=some x:=⟨_,ζg hlt⟩
    obtain ⟨rb,ro,rfl,c0,c1,c2,c3,c4,c5⟩:=rg_cells (HH.out.keep ecRg_len hm (fun _ _ x=>x)) hx
    have hcl:=HC.out.call x wo hm
    unfold ecRg at hcl
    have HCL:=ζh hcl
    have hi0:(0:Int)≤(k:Int):=by omega
    have hi1:(k:Int) < l.length:=by omega
    have HX:=ζh hx
    have HN:=ζh hn
    clear hx hn hcl
    cases hp:p x with
    | true =>
      rw [hp] at HCL
      obtain rfl:r=k:=by rw [HR.out];exact firstR_at HN.out HX.out hp
      clear hp
      go_wp2_with fail
      refine HCL.out.mono ?_
      rintro e w1 ⟨rfl,hm1⟩
      go_wp2_with fail
      go_ret
      exact ⟨rfl,hm.trans hm1⟩
    | false =>
      rw [hp] at HCL
      have hn2:∀ y∈l.take (k+1),p y=false:=by
       intro y hy
       rw [Tre.take_succ_get HX.out] at hy
       rcases List.mem_append.1 hy with h | h
       · exact HN.out y h
       · simp at h;rw [h];exact hp
      have HN2:=ζh hn2
      clear hp hn2
      go_wp2_with fail
      refine HCL.out.mono ?_
      rintro e w1 ⟨rfl,hm1⟩
      have hM:=hm.trans hm1
      clear hm hm1
      go_wp2_with fail
      go_roundw
      case rel=>exact ⟨k+1,by omega,by go_num,HN2.out,hM⟩
      case measure=>simp [intOf];omega
  · obtain rfl:k=l.length:=by omega
    rw [List.take_length] at hn
    obtain rfl:r=-1:=by rw [HR.out];exact firstR_none hn
    clear hn
    go_wp2_with fail
    go_ret
    exact ⟨rfl,hm⟩
theorem rfind1_any (x:Rg) (p:Int) (pb:Nat) (w:World) (hp:Blk w pb #[.int .i64 p] 3) :
 Calls Tryz.prog 225 #[.agg (ecRg x).toArray,.pointer (some ⟨pb,0,none⟩)] w fun e w'=>e=.returned (.bool (inR p x))∧Mod (fun _=>False) w w':=by
 obtain ⟨R,hR⟩:∃ R,R=inR p x:=⟨_,rfl⟩
 rw [←hR]
 unfold inR at hR
 have hm1:=Mod.alloc' (fun _=>False) w (.cells (ecRg x).toArray 131)
 have hp0:=(hp.keep hm1 (fun x=>x)).cell 0
 have hlt:=hp.lt
 unfold ecRg at hm1 hp0 ⊢
 simp only [ζa,ζb] at hp0
 have q0:=hp.cell 0
 simp only [ζa,ζb] at q0
 by_cases h1:x.a≤p
 · have d1:decide (x.a≤p)=true:=decide_eq_true h1
   have hr:R=decide (p < x.b):=by rw [hR,d1,Bool.true_and]
   have HR:=ζh hr
   clear hR hr h1 hp
   go_enter Tryz.func225,Tryz.ntmps225
   go_wp2_with fail
   go_ret
   rw [HR.out]
   exact ⟨rfl,hm1⟩
 · have d1:decide (x.a≤p)=false:=decide_eq_false h1
   have hr:R=false:=by rw [hR,d1,Bool.false_and]
   have HR:=ζh hr
   clear hR hr h1 hp
   go_enter Tryz.func225,Tryz.ntmps225
   go_wp2_with fail
   go_ret
   rw [HR.out]
   exact ⟨rfl,hm1⟩
theorem find_first {l:List Rg} {p:Rg→Bool}:(firstR p l < 0∧l.find? p=none)∨∃ (k:Nat) (x:Rg),firstR p l=k∧k < l.length∧l[k]?=some x∧l.find? p=some x:=by
 by_cases h:l.any p=true
 · right
   unfold firstR
   rw [if_pos h]
   have hlt:l.findIdx p < l.length:=by
    rw [List.findIdx_lt_length]
    exact List.any_eq_true.1 h
   refine ⟨l.findIdx p,l[l.findIdx p],rfl,hlt,ζg hlt,?_⟩
   rw [List.find?_eq_some_iff_getElem]
   refine ⟨List.findIdx_getElem (w:=hlt),l.findIdx p,hlt,rfl,fun j hj=>?_⟩
   have:=List.not_of_lt_findIdx hj
   simpa using this
 · left
   unfold firstR
   rw [if_neg h]
   refine ⟨by omega,?_⟩
   rw [List.find?_eq_none]
   intro x hx hp
   exact h (List.any_eq_true.2 ⟨x,hx,hp⟩)
theorem rfind_any (l:List Rg) (v:Value) (p:Int) (w:World) (h:RowsAt ecRg 6 w v l) :
 Calls Tryz.prog 177 #[v,.int .i64 p] w fun e w'=>e=.returned (.tuple #[.agg (ecRg ((findR l p).getD Rg.zero)).toArray,.bool (findR l p).isSome])∧Mod (fun _=>False) w w':=by
 obtain ⟨a,c,rfl,hcap,hmax⟩:=Pro.rows_form h
 unfold maxLen at hmax
 obtain ⟨R,hR⟩:∃ R,R=findR l p:=⟨_,rfl⟩
 rw [←hR]
 unfold findR at hR
 have HR:=ζh hR
 have HH:=ζh h
 clear hR h
 go_enter Tryz.func177,Tryz.ntmps177
 go_upto_region 1 with fail
 have hb1:=Blk.new w #[.int .i64 p] 3
 have hm1:=Mod.alloc' (fun _=>False) w (.cells #[.int .i64 p] 3)
 obtain ⟨wa,hwa⟩:∃ wa,wa=w.alloc (.cells #[.int .i64 p] 3):=⟨_,rfl⟩
 have sa:wa.heap.size=w.heap.size+1:=by rw [hwa];simp
 rw [←hwa] at hb1 hm1 ⊢
 have hb2:=Blk.new wa (ecRg Rg.zero).toArray 131
 have hm2:=Mod.alloc' (fun _=>False) wa (.cells (ecRg Rg.zero).toArray 131)
 unfold ecRg Rg.zero at hb2 hm2
 simp only at hb2 hm2
 obtain ⟨wb,hwb⟩:∃ wb,wb=wa.alloc (.cells #[.int .i64 0,.int .i64 0,.int .i64 0,.int .i64 0,.int .i64 0,.bool false] 131):=⟨_,rfl⟩
 rw [←hwb] at hb2 hm2 ⊢
 rw [sa] at hb2
 have hM:=hm1.trans hm2
 have hpb:=hb1.keep hm2 (fun x=>x)
 have sb:wb.heap.size=w.heap.size+2:=by rw [hwb];simp [sa]
 have hrow:=HH.out.keep ecRg_len hM (fun _ _ x=>x)
 obtain ⟨g,hg⟩:∃ g,g=w.heap.size+1:=⟨_,rfl⟩
 rw [←hg] at hb2 ⊢
 have hix:=rixfunc_any (inR p) 225 #[.pointer (some ⟨w.heap.size,0,none⟩)] l _ wb hrow ⟨fun x w' hm=>rfind1_any x p w.heap.size w' (hpb.keep hm (fun x=>x)),enters_of Tryz.func225 (by kernel_rfl) rfl⟩
 have hri:=fun w' (hm:Mod (fun _=>False) wb w')=>rright_any l _ w' (hrow.keep ecRg_len hm (fun _ _ x=>x))
 have hb2':Blk wb g (ecRg Rg.zero).toArray 131:=hb2
 have HB2:=ζh hb2'
 have HRI:=ζh hri
 have HROW:=ζh hrow
 have HMM:=ζh hM
 have HG:=ζh hg
 have HSB:=ζh sb
 clear hb1 hm1 hwa hwb hb2 hm2 hM hpb hrow hri hg sa sb hb2'
 rcases find_first (l:=l) (p:=inR p) with ⟨h1,h2⟩ | ⟨k,x,h1,h2,h3,h4⟩
 · have d0:decide (firstR (inR p) l < 0)=true:=decide_eq_true h1
   have hr:R=none:=by rw [HR.out];split;exact h2;rfl
   have HRN:=ζh hr
   have HIX:=ζh hix
   clear h1 h2 hr hix
   go_wp2_with fail
   refine HIX.out.mono ?_
   rintro e w1 ⟨rfl,hm1⟩
   obtain ⟨hst,hbf,hmf⟩:=rg_store (HB2.out.keep hm1 (fun x=>x)) Rg.zero
   have HBF:=ζh hbf
   have HMF:=ζh ((HMM.out.trans hm1).trans' hmf (fun i hi e=>by have:=HG.out;omega))
   unfold ecRg Rg.zero at hst
   have HST:=ζh hst
   clear hbf hmf hm1 hst
   go_wp2_with (refine Byt.wpList_storeBy rfl 131 _ _ (by rfl) ⟨g,0,none⟩ _ (by rfl) (by rfl) HST.out ?_)
   refine bodyPost_ret (res_rg2 (x:=Rg.zero) rfl rfl rfl HBF.out) rfl ?_
   rw [HRN.out]
   exact ⟨rfl,HMF.out⟩
 · have d0:decide (firstR (inR p) l < 0)=false:=decide_eq_false (by omega)
   have HIX:=ζh hix
   have HK:=ζh h1
   have HX:=ζh h3
   have HFD:=ζh h4
   clear h1 h3 h4 hix
   cases hrr:rightR 0 l with
   | false =>
     have hr:R=none:=by rw [HR.out,hrr];rfl
     have HRN:=ζh hr
     clear hr
     go_wp2_with fail
     refine HIX.out.mono ?_
     rintro e w1 ⟨rfl,hm1⟩
     have hri:=HRI.out w1 hm1
     rw [hrr] at hri
     have HRI1:=ζh hri
     clear hri hrr
     go_wp2_with fail
     refine HRI1.out.mono ?_
     rintro e w2 ⟨rfl,hm2⟩
     have hm12:=hm1.trans hm2
     obtain ⟨hst,hbf,hmf⟩:=rg_store (HB2.out.keep hm12 (fun x=>x)) Rg.zero
     have HBF:=ζh hbf
     have HMF:=ζh ((HMM.out.trans hm12).trans' hmf (fun i hi e=>by have:=HG.out;omega))
     unfold ecRg Rg.zero at hst
     have HST:=ζh hst
     clear hbf hmf hm1 hm2 hm12 hst
     go_wp2_with (refine Byt.wpList_storeBy rfl 131 _ _ (by rfl) ⟨g,0,none⟩ _ (by rfl) (by rfl) HST.out ?_)
     refine bodyPost_ret (res_rg2 (x:=Rg.zero) rfl rfl rfl HBF.out) rfl ?_
     rw [HRN.out]
     exact ⟨rfl,HMF.out⟩
   | true =>
     have hr:R=some x:=by rw [HR.out,hrr,if_pos rfl];exact HFD.out
     have HRN:=ζh hr
     clear hr
     go_wp2_with fail
     refine HIX.out.mono ?_
     rintro e w1 ⟨rfl,hm1⟩
     have hri:=HRI.out w1 hm1
     rw [hrr] at hri
     have HRI1:=ζh hri
     clear hri hrr
     rw [HK.out]
     go_wp2_with fail
     refine HRI1.out.mono ?_
     rintro e w2 ⟨rfl,hm2⟩
     have hm12:=hm1.trans hm2
     obtain ⟨hst,hbf,hmf⟩:=rg_store (HB2.out.keep hm12 (fun x=>x)) x
     have HBF:=ζh hbf
     have HMF:=ζh ((HMM.out.trans hm12).trans' hmf (fun i hi e=>by have:=HG.out;omega))
     obtain ⟨rb,ro,rfl,y0,y1,y2,y3,y4,y5⟩:=rg_cells (HROW.out.keep ecRg_len hm12 (fun _ _ x=>x)) HX.out
     have i0:(0:Int)≤(k:Int):=by omega
     have i1:(k:Int) < (l.length:Int):=by omega
     unfold ecRg at hst
     have HST:=ζh hst
     clear hbf hmf hm1 hm2 hm12 hst
     go_wp2_with (refine Byt.wpList_storeBy rfl 131 _ _ (by rfl) ⟨g,0,none⟩ _ (by rfl) (by rfl) HST.out ?_)
     refine bodyPost_ret (res_rg2 (x:=x) rfl rfl rfl HBF.out) rfl ?_
     rw [HRN.out]
     exact ⟨rfl,HMF.out⟩
end Reg

section
open Go.RowKit Go.Shelf Go.ChangeShapes Go.WideShapes
attribute [local go_sem] Oper.semAt_some
variable {w0 w:World} {F0:Nat→Prop} {A:Part} {K:CK} {c:CoM} {ls:List Part}
theorem Sep.split {w:World}:∀ {l l':List Part} {F:Nat→Prop},Sep (l++l') w F→∃ F1 F2,Sep l w F1∧Sep l' w F2∧(∀ x,F1 x→¬ F2 x)∧(∀ x,F x↔F1 x∨F2 x)
 | [],l',F,h=>⟨fun _=>False,F,fun _ x=>x,h,fun _ x=>x.elim,fun x=>by simp⟩
 | A::l,l',F,⟨F1,F2,h1,h2,h3,h4⟩=>by
   obtain ⟨G1,G2,g1,g2,g3,g4⟩:=h2.split
   refine ⟨fun x=>F1 x∨G1 x,G2,⟨F1,G1,h1,g1,fun x hx h=>h3 x hx ((g4 x).2 (.inl h)),fun x=>Iff.rfl⟩,g2,?_,fun x=>?_⟩
   · rintro x (h | h) h'
     · exact h3 x h ((g4 x).2 (.inr h'))
     · exact g3 x h h'
   · have:=h4 x
     have:=g4 x
     grind
theorem core_flat (st:Step w0 F0 (coreP K c::ls) w):Step w0 F0 (coreL K c++ls) w:=by
 obtain ⟨F,⟨F1,F2,⟨h1,_⟩,h2,h3,h4⟩,hg,hF⟩:=st.sep
 exact ⟨st.mod,st.tab,_,h1.app h2 h3,fun x hx=>hg x ((h4 x).2 hx),fun h=>hF ((h4 _).2 h)⟩
theorem core_pack (st:Step w0 F0 (coreL K c++ls) w) (hi:c.Inv):Step w0 F0 (coreP K c::ls) w:=by
 obtain ⟨F,h,hg,hF⟩:=st.sep
 obtain ⟨F1,F2,h1,h2,h3,h4⟩:=h.split
 exact ⟨st.mod,st.tab,F,⟨F1,F2,⟨h1,hi⟩,h2,h3,h4⟩,hg,hF⟩
theorem info_guard:(Tryz.prog.info? 164).map (fun i=>(i.zero,i.size,i.bytes))=some (some (.agg #[.int .i64 0,.int .i64 0,.bool false]),3,24):=by kernel_rfl
theorem addGroup_inv {c:CoM} (h:c.Inv) {p:Int} (he:Tre.addE c.tree p=0):CoM.Inv { c with tree:=Tre.addS c.tree p,guards:=c.guards++[⟨0,0,false⟩],up:=c.up++[p] }:=by
 have hl:(Tre.addS c.tree p).length=c.tree.length+1:=by unfold Tre.addS;rw [if_pos he];simp
 refine ⟨Tre.addS_good h.good p,?_,?_,fun e hm=>?_,h.ids,h.sh⟩
 · simp only [List.length_append,List.length_singleton];rw [hl,h.gl]
 · simp only [List.length_append,List.length_singleton];rw [hl,h.ul]
 · have:=h.own e hm
   simp only
   rw [hl]
   omega
theorem Step.growAt {ps:List Part} (i:Nat) {w2:World} {T:TypeId} {sz n g cap:Nat} {v:Value} {xs news:List Value} {o:Obj} (st:Step w0 F0 ps w) (hi:ps[i]?=some (rowP T sz v n xs)) (o2:w2.ownsRow 0 T sz (.slice (some ⟨g,0,none⟩) (n+1) cap) (n+1) (xs++news))
 (m2:Mod (fun q=>some q=v.ownBlock) (w.alloc o) w2) (hg:v.ownBlock=some g∨g=(w.alloc o).heap.size):Step w0 F0 (ps.set i (rowP T sz (.slice (some ⟨g,0,none⟩) (n+1) cap) (n+1) (xs++news))) w2:=by
 have st1:Step w0 F0 ps (w.alloc o):=st.still (Mod.alloc' _ w o)
 obtain ⟨F1,⟨_,rfl⟩,h2⟩:=st1.updAt i hi
 refine h2 w2 _ _ (m2.mono (fun q h=>h.symm)) ⟨o2,rfl⟩ (fun q hq=>?_)
 have e:g=q:=(by simpa [Value.ownBlock] using hq)
 subst e
 rcases hg with h | h
 · exact .inl h
 · exact .inr (by omega)
theorem core_addGroup (p:Int) (st:Step w0 F0 (coreP K c::ls) w) :
 Calls Tryz.prog 49 #[.pointer (some ⟨K.b,0,none⟩),.int .i64 p] w fun e w'=>e=.returned (.tuple #[.int .i64 (c.addGroup p).1.1,.int .i64 (c.addGroup p).1.2])∧∃ gv uv,Step w0 F0 (coreP { K with gv:=gv,uv:=uv } (c.addGroup p).2::ls) w':=by
 have h0:=core_h0 st
 have hin:=coreInv st
 have fl:=core_flat st
 obtain ⟨R,hR⟩:∃ R,R=c.addGroup p:=⟨_,rfl⟩
 rw [←hR]
 unfold CoM.addGroup at hR
 obtain ⟨F1,⟨g,tc,hT,rfl⟩,hup⟩:=fl.updAt (A:=treeP K.tb c.tree) 1 rfl
 have had:=Tre.add_any K.tb g tc c.tree p w hT
 obtain ⟨E,hE⟩:∃ E,E=Tre.addE c.tree p:=⟨_,rfl⟩
 have hR2:=hR
 rw [←hE] at hR2 had
 have HAD:=ζh had
 have HR:=ζh hR2
 have HE:=ζh hE
 have HUP:=ζh hup
 have HIN:=ζh hin
 clear hR hR2 had hup hT hin fl hE
 by_cases hE:E=0
 · have d0:(E==0)=true:=by rw [hE];rfl
   have hr:=HR.out
   rw [if_pos hE] at hr
   have HR1:=ζh hr
   have HE0:=ζh hE
   clear hE hr
   go_enter Tryz.func49,Tryz.ntmps49
   go_wp2_with fail
   refine HAD.out.mono ?_
   rintro e w1 ⟨g',c',rfl,hm,hT',hg'⟩
   have st1:=HUP.out w1 (treeP K.tb (Tre.addS c.tree p)) _ hm ⟨g',c',hT',rfl⟩ (fun x hx=>by
    rcases hx with h | h
    · exact .inl (.inl h)
    · rcases hg' with h' | h'
      · exact .inl (.inr (by rw [h];exact h'))
      · right;omega)
   have hb:=st1.blk (b:=K.b) (cs:=K.cells) (T:=89) (by simp [coreL])
   have q12:=hb.cell 12
   have q13:=hb.cell 13
   have f12:=hb.frozen 12
   unfold CK.cells at q12 q13
   simp only [ζa,ζb,ζc] at q12 q13
   have hrow:=st1.rowOf (T:=164) (sz:=3) (v:=K.gv) (n:=c.guards.length) (xs:=c.guards.flatMap ecGu) (by simp [coreL])
   obtain ⟨ga,gc,hgv⟩:=ownsRow_form hrow
   have hrow2:=st1.rowOf (T:=3) (sz:=1) (v:=K.uv) (n:=c.up.length) (xs:=c.up.map encI) (by simp [coreL])
   obtain ⟨ua,uc,huv⟩:=ownsRow_form hrow2
   have hun64:c.up.length≤64:=by rw [HIN.out.ul];exact HIN.out.good.le
   rw [hgv] at hrow q12
   rw [huv] at q13
   have HUV:=ζh huv
   have hn64:c.guards.length≤64:=by rw [HIN.out.gl];exact HIN.out.good.le
   have ST1:=ζh st1
   have HROW:=ζh hrow
   have HGV:=ζh hgv
   clear st1 hrow hm hT' hg' hb hgv huv hrow2
   go_upto_region 4 with (at_builtin;go_loud (refine wpList_app rfl _ _ 87 rfl 0 164 _ 3 24 Tryz.underlying87 info_guard rfl (by decide) (by decide) _ c.guards.length _ rfl (HROW.out.alloc _) ⟨w1.heap.size,0,none⟩ 1 [.int .i64 0,.int .i64 0,.bool false] rfl rfl (World.news_of_block (cs:=#[.int .i64 0,.int .i64 0,.bool false]) (t:=164) (fr:=(0,0)) (heap_alloc_new w1 _)) (by simp [Value.oneCell']) (by omega) (Nat.zero_le _) ?_;intro g2 cap2 w2 o2 m2 hg2 hlt2);have st2:=ST1.out.growAt 13 (v:=K.gv) rfl o2 (by rw [HGV.out];exact m2) (by rw [HGV.out];exact hg2);have hb2:=st2.blk (b:=K.b) (cs:=K.cells) (T:=89) (by simp [coreL]);have r12:=hb2.cell 12;have fr12:=hb2.frozen 12;have r13:=hb2.cell 13;unfold CK.cells at r12 r13;simp only [ζa,ζb,ζc] at r12 r13;have st3:=st2.setAt (j:=12) (v:=.slice (some ⟨g2,0,none⟩) (c.guards.length+1) cap2) (b:=K.b) (cs:=K.cells) (T:=89) 0 (by simp [coreL]);have hb3:=st3.blk (b:=K.b) (cs:=K.cells.setIfInBounds 12 (.slice (some ⟨g2,0,none⟩) (c.guards.length+1) cap2)) (T:=89) (by simp [coreL]);have s13:=hb3.cell 13;rw [Array.getElem?_setIfInBounds_ne (by omega)] at s13;unfold CK.cells at s13;simp only [ζa,ζb,ζc] at s13;rw [HUV.out] at s13;have ST3:=ζh st3;have HO2:=ζh (st3.rowOf (T:=3) (sz:=1) (v:=K.uv) (n:=c.up.length) (xs:=c.up.map encI) (by simp [coreL]));clear st2 st3 hb2 hb3 o2 m2 hg2 hlt2)
   have st3:=ST3.out
   obtain ⟨w3,hw3⟩:∃ w3,w3=w2.setCell ⟨K.b,12,none⟩ (.slice (some ⟨g2,0,none⟩) (c.guards.length+1) cap2):=⟨_,rfl⟩
   have ho2:=HO2.out
   rw [←hw3] at st3 s13 ho2 ⊢
   rw [HUV.out] at ho2
   have ST4:=ζh st3
   have HO4:=ζh ho2
   clear hw3 ho2 st3 ST3 HO2 r12 r13 fr12 q12 q13 f12 h0
   go_wp2_with (at_builtin;go_loud (refine wpList_app rfl _ _ 30 rfl 0 3 (.int .i64 0) 1 8 Tryz.underlying30 info_int rfl (by decide) (by decide) _ c.up.length _ rfl (HO4.out.alloc _) ⟨w3.heap.size,0,none⟩ 1 [.int .i64 p] rfl rfl (cell_one_new _ _ _) (by simp [Value.oneCell']) (by omega) (Nat.zero_le _) ?_;intro g4 cap4 w4 o4 m4 hg4 hlt4);have st4:=ST4.out.growAt 14 (v:=K.uv) rfl o4 (by rw [HUV.out];exact m4) (by rw [HUV.out];exact hg4);have hb4:=st4.blk (b:=K.b) (cs:=K.cells.setIfInBounds 12 (.slice (some ⟨g2,0,none⟩) (c.guards.length+1) cap2)) (T:=89) (by simp [coreL]);have r13:=hb4.cell 13;have fr13:=hb4.frozen 13;rw [Array.getElem?_setIfInBounds_ne (by omega)] at r13;unfold CK.cells at r13;simp only [ζa,ζb,ζc] at r13;have st5:=st4.setAt (j:=13) (v:=.slice (some ⟨g4,0,none⟩) (c.up.length+1) cap4) (b:=K.b) (cs:=K.cells.setIfInBounds 12 (.slice (some ⟨g2,0,none⟩) (c.guards.length+1) cap2)) (T:=89) 0 (by simp [coreL]);have ST5:=ζh st5;clear st4 st5 hb4 o4 m4 hg4 hlt4)
   go_ret2
   rw [HR1.out]
   refine ⟨rfl,.slice (some ⟨g2,0,none⟩) (c.guards.length+1) cap2,.slice (some ⟨g4,0,none⟩) (c.up.length+1) cap4,core_pack ?_ (addGroup_inv HIN.out (by rw [←HE.out];exact HE0.out))⟩
   have e1:(c.guards++[(⟨0,0,false⟩:GuM)]).flatMap ecGu=c.guards.flatMap ecGu++[.int .i64 0,.int .i64 0,.bool false]:=by rw [List.flatMap_append];rfl
   have e2:(c.up++[p]).map encI=c.up.map encI++[.int .i64 p]:=by rw [List.map_append];rfl
   have st6:=ST5.out
   unfold coreL
   simp only [e1,e2,List.length_append,List.length_singleton]
   exact st6
 · have d0:(E==0)=false:=by rw [beq_eq_false_iff_ne];exact hE
   have hr:=HR.out
   rw [if_neg hE] at hr
   have HR1:=ζh hr
   have HE0:=ζh hE
   clear hE hr
   go_enter Tryz.func49,Tryz.ntmps49
   go_wp2_with fail
   refine HAD.out.mono ?_
   rintro e w1 ⟨g',c',rfl,hm,hT',hg'⟩
   have hts:Tre.addS c.tree p=c.tree:=by unfold Tre.addS;rw [if_neg (by rw [←HE.out];exact HE0.out)]
   rw [hts] at hT'
   have st1:=HUP.out w1 (treeP K.tb c.tree) _ hm ⟨g',c',hT',rfl⟩ (fun x hx=>by
    rcases hx with h | h
    · exact .inl (.inl h)
    · rcases hg' with h' | h'
      · exact .inl (.inr (by rw [h];exact h'))
      · right;omega)
   have st2:Step w0 F0 (coreL K c++ls) w1:=st1
   have HS2:=ζh (core_pack st2 HIN.out)
   clear st1 st2 hm hT' hg' hts
   go_wp2_with fail
   go_ret2
   rw [HR1.out]
   exact ⟨rfl,K.gv,K.uv,HS2.out⟩
end

section
open Go.RowKit Go.Shelf Go.ChangeShapes Go.WideShapes
attribute [local go_sem] Oper.semAt_some
variable {w0 w:World} {F0:Nat→Prop}
theorem blk3_cells {w:World} {b x y z:Nat} {T:TypeId} (h:Blk w b #[.pointer (some ⟨x,0,none⟩),.pointer (some ⟨y,0,none⟩),.pointer (some ⟨z,0,none⟩)] T) :
 w.cell? ⟨b,0,none⟩=some (.pointer (some ⟨x,0,none⟩))∧w.cell? ⟨b,1,none⟩=some (.pointer (some ⟨y,0,none⟩))∧w.cell? ⟨b,2,none⟩=some (.pointer (some ⟨z,0,none⟩)):=⟨h.cell 0,h.cell 1,h.cell 2⟩
theorem res_store {fn:Func} {p:Tmp} (h:fn.results=#[.cell p 76 ]) {tmps:Array Value} {w:World} {g x y z:Nat} (hp:tmps.getD p undef=.pointer (some ⟨g,0,none⟩))
 (hb:Blk w g #[.pointer (some ⟨x,0,none⟩),.pointer (some ⟨y,0,none⟩),.pointer (some ⟨z,0,none⟩)] 76) :
 (results fn tmps).run Tryz.prog w=.ok (.agg #[.pointer (some ⟨x,0,none⟩),.pointer (some ⟨y,0,none⟩),.pointer (some ⟨z,0,none⟩)]) w:=by
 have hp':tmps[p]?.getD undef=.pointer (some ⟨g,0,none⟩):=by simpa using hp
 obtain ⟨x0,x1,x2⟩:=blk3_cells hb
 have hl:(loadVar 76 ⟨g,0,none⟩).run Tryz.prog w=.ok (.agg #[.pointer (some ⟨x,0,none⟩),.pointer (some ⟨y,0,none⟩),.pointer (some ⟨z,0,none⟩)]) w:=by
  unfold loadVar
  simp [Tryz.isAgg76 ,go_sem,x0,x1,x2]
 simp [results,h,hp',asAddr,hl]
theorem core_newStore (n:Int) {ps:List Part} (i:Nat) (h1:ps[i]?=some nilP) (h2:ps[i+1]?=some nilP) (h3:ps[i+2]?=some nilP) (st:Step w0 F0 ps w) :
 Calls Tryz.prog 26 #[.int .i64 n] w fun e w'=>∃ p s u,e=.returned (.agg #[.pointer (some ⟨p,0,none⟩),.pointer (some ⟨s,0,none⟩),.pointer (some ⟨u,0,none⟩)]) ∧
  Step w0 F0 (((ps.set i (poolP p (CoM.newSt n).pool)).set (i+1) (bytesP s (CoM.newSt n).bytes)).set (i+2) (cntP u (CoM.newSt n).used)) w':=by
 have st0:=st.push (A:=blkP w.heap.size #[.pointer none,.pointer none,.pointer none] 76) (F:=fun x=>x=w.heap.size) (Mod.alloc' _ w _) ⟨Blk.new w _ _,rfl⟩ (fun x hx=>by omega)
 have ST:=ζh st0
 have H1:=ζh h1
 have H2:=ζh h2
 have H3:=ζh h3
 clear st st0 h1 h2 h3
 go_enter Tryz.func26,Tryz.ntmps26
 go_upto_region 1 with fail
 obtain ⟨wa,hwa⟩:∃ wa,wa=w.alloc (.cells #[.pointer none,.pointer none,.pointer none] 76):=⟨_,rfl⟩
 obtain ⟨r,hr⟩:∃ r,r=w.heap.size:=⟨_,rfl⟩
 have sta:=ST.out
 rw [←hwa,←hr] at sta ⊢
 have STA:=ζh sta
 clear ST sta hwa hr
 go_wp2_with fail
 refine (Pol.pnew_any n _).mono ?_
 rintro e w1 ⟨p,m,g,pc,rfl,hm1,hp1,f1,f2,f3⟩
 have st1:=STA.out.makeAt (B:=poolP p (CoM.newSt n).pool) (i+1) (by simpa using H1.out) hm1 ⟨m,g,pc,hp1,rfl⟩ (by rintro x (h | h | h)<;>omega)
 have ST1:=ζh st1
 clear st1 hm1 hp1 f1 f2 f3
 go_wp2_with fail
 refine (Byt.bynew_any n _).mono ?_
 rintro e w2 ⟨s,gs,rfl,hm2,hp2,f1,f2⟩
 have st2:=ST1.out.makeAt (B:=bytesP s (CoM.newSt n).bytes) (i+2) (by rw [List.getElem?_set_ne (by omega)];simpa using H2.out) hm2 ⟨gs,hp2,rfl⟩ (by rintro x (h | h)<;>omega)
 have ST2:=ζh st2
 clear st2 hm2 hp2 f1 f2
 go_wp2_with fail
 refine (Cnt.cnew_any _).mono ?_
 rintro e w3 ⟨u,rfl,hm3,hp3,f1⟩
 have st3:=ST2.out.makeAt (B:=cntP u (CoM.newSt n).used) (i+3) (by rw [List.getElem?_set_ne (by omega),List.getElem?_set_ne (by omega)];simpa using H3.out) hm3 ⟨hp3,rfl⟩ (by rintro x h;omega)
 simp only [List.set_cons_succ] at st3
 have b3:=st3.blk0
 have q0:=b3.cell 0
 have q1:=b3.cell 1
 have q2:=b3.cell 2
 simp only [ζa,ζb,ζc] at q0 q1 q2
 have g0:=b3.frozen 0
 have s1:=b3.set 0 (.pointer (some ⟨p,0,none⟩))
 have g1:=s1.frozen 1
 have s2:=s1.set 1 (.pointer (some ⟨s,0,none⟩))
 have g2:=s2.frozen 2
 have s3:=s2.set 2 (.pointer (some ⟨u,0,none⟩))
 have st4:=((st3.set0 (j:=0) (v:=.pointer (some ⟨p,0,none⟩))).set0 (j:=1) (v:=.pointer (some ⟨s,0,none⟩))).set0 (j:=2) (v:=.pointer (some ⟨u,0,none⟩))
 have HS4:=ζh st4.drop
 have HB4:=ζh s3
 clear st3 st4 b3 s1 s2 s3 hm3 hp3 f1 STA ST1 ST2
 go_wp2_with fail
 refine bodyPost_ret (res_store rfl rfl HB4.out) rfl ?_
 exact ⟨p,s,u,rfl,HS4.out⟩
theorem pgnew_any (w:World):Calls Tryz.prog 30 #[] w fun e w'=>∃ b F,e=.returned (.pointer (some ⟨b,0,none⟩))∧Mod (fun _=>False) w w'∧Pag.PagesAt w' b F ⟨[],[],[],0⟩∧∀ x,F x→w.heap.size≤x:=by
 have hmm:=@run_makeMap Tryz.prog
 go_enter Tryz.func30,Tryz.ntmps30
 go_wp2_with fail
 go_ret
 obtain ⟨wa,hwa⟩:∃ wa,wa=w.alloc (.map #[] 0):=⟨_,rfl⟩
 obtain ⟨wb,hwb⟩:∃ wb,wb=wa.alloc (.map #[] 0):=⟨_,rfl⟩
 obtain ⟨wc,hwc⟩:∃ wc,wc=wb.alloc (.map #[] 0):=⟨_,rfl⟩
 have m1:MapA ekInt Pag.evP wa w.heap.size (Pag.mapV (·.1) ([]:List (Int × (Nat × Pag.PG)))):=by rw [hwa];exact MapA.new
 have m2:MapA ekTwo encI wb wa.heap.size ([]:List ((Int × Int) × Int)):=by rw [hwb];exact MapA.new
 have m3:MapA ekTwo encI wc wb.heap.size ([]:List ((Int × Int) × Int)):=by rw [hwc];exact MapA.new
 have sa:wa.heap.size=w.heap.size+1:=by rw [hwa];simp
 have sb:wb.heap.size=w.heap.size+1+1:=by rw [hwb];simp [sa]
 have sc:wc.heap.size=w.heap.size+1+1+1:=by rw [hwc];simp [sb]
 have ma:Mod (fun _=>False) w wa:=by rw [hwa];exact Mod.alloc' _ _ _
 have mb:Mod (fun _=>False) wa wb:=by rw [hwb];exact Mod.alloc' _ _ _
 have mc:Mod (fun _=>False) wb wc:=by rw [hwc];exact Mod.alloc' _ _ _
 rw [←hwa,←hwb,←hwc]
 have md:=Mod.alloc' (fun _=>False) wc (.cells #[.map (some w.heap.size),.map (some (w.heap.size+1)),.map (some (w.heap.size+1+1)),.int .i64 0] 117)
 have hB:=Blk.new wc #[.map (some w.heap.size),.map (some (w.heap.size+1)),.map (some (w.heap.size+1+1)),.int .i64 0] 117
 rw [sc] at hB
 rw [sa] at m2
 rw [sb] at m3
 refine ⟨w.heap.size+1+1+1,fun x=>w.heap.size≤x∧x≤w.heap.size+1+1+1,rfl,((ma.trans mb).trans mc).trans md,⟨w.heap.size,w.heap.size+1,w.heap.size+1+1,[],?_⟩,fun x h=>h.1⟩
 refine ⟨hB,?_,?_,?_,rfl,⟨(fun e he=>by cases he),List.nodup_nil⟩,by omega,⟨by omega,by omega,by omega,by omega,(fun e he=>by cases he)⟩,?_⟩
 · exact (m1.keep ((mb.trans mc).trans md) (fun x=>x))
 · exact (m2.keep (mc.trans md) (fun x=>x))
 · exact (m3.keep md (fun x=>x))
 · rintro x ⟨h1,h2⟩
   have:=md.size
   rw [World.size_alloc]
   omega
end
end Go.Proofs.YtkfoeonggmlebaaGreatDoor
