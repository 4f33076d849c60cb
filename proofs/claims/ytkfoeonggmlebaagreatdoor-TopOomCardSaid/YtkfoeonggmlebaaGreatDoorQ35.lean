/-
  Contracts of the program's functions, and plain facts, towards the laws of millpondtop. No condition beyond those that each theorem bears.
-/
import Derived.Deep.AppendSrc
import Derived.Test.YtkfoeonggmlebaaGreatDoorQ31
import Derived.Test.YtkfoeonggmlebaaGreatDoorQAA
set_option maxRecDepth 100000
set_option maxHeartbeats 4000000
namespace Go.Proofs.YtkfoeonggmlebaaGreatDoor
namespace Reg
open Go.RowKit Go.Shelf
attribute [local go_sem] Oper.semAt_some
section
variable {P:Program} {w:World} {ops:Array Oper} {o:Oper} {a:Act} {K:Act→World→Prop} {Q:Exit→Act→World→Prop} {E:Prop}
theorem step_full (hgd:o.guard=none) (s x:Operand) (t:TypeId) (ho:o.op=.call { callee:=.builtin .append,args:=#[s,x],argTypes:=#[t,t] })
 (e:TypeId) (z:Value) (size bytes:Nat) (ht:P.underlying t=some (.slice e)) (hi:(P.info? e).map (fun i=>(i.zero,i.size,i.bytes))=some (some z,size,bytes))
 (hzs:z.cells.size=size) (hby:bytes≤1000)
 (bs:Option Addr) (n:Nat) (olds:List Value) (hs:a.eval s=.slice bs n n) (hol:olds.length=n * size) (hold:(Builtin.firstCells size n (.slice bs n n)).run P w.drew=.ok olds.toArray w.drew)
 (ad:Addr) (c:Nat) (news:List Value) (hx:a.eval x=.slice (some ad) 1 c) (hl:news.length=size) (hnews:∀ j u,news[j]?=some u→w.cell? (ad.add j)=some u) (h1:∀ u∈news,u.oneCell'=true)
 (hn:n≤1000000000)
 (h:∀ cap w',w'.ownsRow w.heap.size e size (.slice (some ⟨w.heap.size,0,none⟩) (n+1) cap) (n+1) (olds++news)→Mod (fun _=>False) w w'→w.heap.size < w'.heap.size→K (a.put o.dst (.slice (some ⟨w.heap.size,0,none⟩) (n+1) cap)) w') :
 if Region.wanted o (yielded ops a.tmps)=true then Oper.wp P o a w K Q else E:=by
 obtain ⟨i,hi1,hz,h2,h3⟩:=info_parts hi
 subst h2 h3
 have hw:Region.wanted o (yielded ops a.tmps)=true:=by simp [Region.wanted,hgd]
 rw [if_pos hw]
 have hnm:n+1≤maxLen:=by unfold maxLen;omega
 have hbb:(n+1) * i.bytes≤140737488355328:=by
  have:(n+1) * i.bytes≤(1000000000+1) * 1000:=Nat.mul_le_mul (by omega) hby
  omega
 have hr:=run_append_grow_src (P:=P) w t t o.type e i z ht hi1 hz bs n n olds hold _ 1 news (Src.ofSlice w ht ad 1 c news (by rw [hl,Nat.one_mul]) hnews h1) (by omega) (by unfold maxLen at hnm;omega) (growslice_fits (by omega) hbb)
 have hge:=grownCap_ge w (n+1) n e
 have hcm:=grownCap_le_maxLen w (n+1) n e hnm
 unfold Oper.wp execOp
 simp only [ho,resolve,invoke,builtin,Sem.run_bind,Sem.run_pure,Result.andThen_ok,List.map_toArray,List.map_cons,List.map_nil,hs,hx,hr]
 refine h _ _ ⟨by rw [List.length_append,hol,hl,Nat.add_mul,Nat.one_mul],.inr ⟨w.heap.size,_,_,rfl,Nat.le_refl _,heap_alloc_new w.drew _,hge,hcm,?_,?_⟩⟩ ((Mod.refl _ w).drew.alloc _) (by simp)
 · simp only [Array.size_append,List.size_toArray,size_zeroCells,hzs,List.length_append,hol,hl]
   rw [show n * i.size+i.size=(n+1) * i.size by rw [Nat.add_mul,Nat.one_mul],←Nat.add_mul]
   congr 1
   omega
 · simp only [Array.toList_append]
   have:(n+1) * i.size=(olds++news).length:=by rw [List.length_append,hol,hl,Nat.add_mul,Nat.one_mul]
   rw [this]
   exact List.take_left
theorem step_own_at (hgd:o.guard=none) (s x:Operand) (t:TypeId) (ho:o.op=.call { callee:=.builtin .append,args:=#[s,x],argTypes:=#[t,t] })
 (base:Nat) (e:TypeId) (z:Value) (size bytes:Nat) (ht:P.underlying t=some (.slice e)) (hi:(P.info? e).map (fun i=>(i.zero,i.size,i.bytes))=some (some z,size,bytes))
 (hzs:z.cells.size=size) (hsz:0 < size) (hby:bytes≤1000)
 (v:Value) (n:Nat) (xs:List Value) (hs:a.eval s=v) (hown:w.ownsRow base e size v n xs)
 (xa:Option Addr) (m c:Nat) (news:List Value) (hx:a.eval x=.slice xa m c) (hl:news.length=m * size) (hnews:∀ ad,xa=some ad→∀ j u,news[j]?=some u→w.cell? (ad.add j)=some u) (hxn:xa=none→m=0∧c=0) (h1:∀ u∈news,u.oneCell'=true)
 (hn:n+m≤1000000000) (hbase:base≤w.heap.size)
 (h:∀ v' w',w'.ownsRow base e size v' (n+m) (xs++news)→Mod (fun k=>some k=v.ownBlock) w w'→K (a.put o.dst v') w') :
 if Region.wanted o (yielded ops a.tmps)=true then Oper.wp P o a w K Q else E:=by
 obtain ⟨i,hi1,hz,h2,h3⟩:=info_parts hi
 have hw:Region.wanted o (yielded ops a.tmps)=true:=by simp [Region.wanted,hgd]
 rw [if_pos hw]
 cases xa with
 | some ad =>
   obtain ⟨v',w',hr,g1,g2,_⟩:=run_append_own_at (P:=P) w base t o.type e i z size bytes ht hi1 hz h2 h3 hzs hsz v n xs hown ad m c news hl (hnews ad rfl) h1 (by unfold maxLen;omega) (by
    have:(n+m) * bytes≤1000000000 * 1000:=Nat.mul_le_mul (by omega) hby
    omega) hbase
   unfold Oper.wp execOp
   simp only [ho,resolve,invoke,builtin,Sem.run_bind,Sem.run_pure,Result.andThen_ok,List.map_toArray,List.map_cons,List.map_nil,hs,hx,hr]
   exact h v' w' g1 (Mod.ofGrown g2)
 | none =>
   obtain ⟨rfl,rfl⟩:=hxn rfl
   obtain rfl:news=[]:=List.eq_nil_of_length_eq_zero (by simpa using hl)
   have hrun:=run_append_owned_none (P:=P) (w:=w) base t o.type e i size ht hi1 v n xs hown
   unfold Oper.wp
   simp [execOp,ho,resolve,invoke,builtin,hs,hx,hrun,Result.andThen]
   exact h v w (by simpa using hown) (Mod.refl _ _)
end
theorem info_rg:(Tryz.prog.info? 131).map (fun i=>(i.zero,i.size,i.bytes))=some (some (.agg #[.int .i64 0,.int .i64 0,.int .i64 0,.int .i64 0,.int .i64 0,.bool false]),6,48):=by kernel_rfl
theorem rg_first {w:World} {a:Option Addr} {n c k:Nat} {l:List Rg} (h:RowsAt ecRg 6 w (.slice a n c) l) (hk:k≤l.length):(Builtin.firstCells 6 k (.slice a k k)).run Tryz.prog w=.ok ((l.take k).flatMap ecRg).toArray w:=by
 obtain ⟨a',c',e,h1,h2,h3⟩:=h
 injection e with e1 e2 e3
 subst e1
 cases a with
 | none =>
   have hl0:l.length=0:=by
    rcases Nat.eq_zero_or_pos l.length with h0 | h0
    · exact h0
    · obtain ⟨b,off,hb,_⟩:=h3 0 _ (ζg h0)
      cases hb
   have hk0:k=0:=by omega
   subst hk0
   simpa using run_firstCells_none (P:=Tryz.prog) w 6 0 0 0
 | some ad =>
   rcases Nat.eq_zero_or_pos k with hk0 | hk0
   · subst hk0
     have:=run_firstCells_some (P:=Tryz.prog) w 6 0 ad 0 0 [] rfl (fun j u hu=>by simp at hu)
     simpa using this
   · have hlt:0 < l.length:=by omega
     obtain ⟨b,off,hb,_⟩:=h3 0 _ (ζg hlt)
     injection hb with hb
     subst hb
     refine run_firstCells_some (P:=Tryz.prog) w 6 k _ k k ((l.take k).flatMap ecRg) (by rw [flat_len ecRg_len,List.length_take,Nat.min_eq_left hk]) (fun j u hu=>?_)
     have hj:j < k * 6:=by have:=(ζi.1 hu).1;rwa [flat_len ecRg_len,List.length_take,Nat.min_eq_left hk] at this
     have hq:j / 6 < k:=by omega
     have hx:(l.take k)[j / 6]?=some l[j / 6]:=by rw [List.getElem?_take_of_lt hq,ζg (by omega)]
     have:=flat_get ecRg_len (l.take k) (j / 6) (j%6) (by omega)
     rw [show j / 6 * 6+j%6=j by omega,hx] at this
     rw [this] at hu
     obtain ⟨b',off',hb',hc'⟩:=h3 (j / 6) _ (ζg (show j / 6 < l.length by omega))
     injection hb' with hb'
     injection hb' with e4 e5 _
     subst e4 e5
     have:=hc' (j%6) (by omega)
     rw [show (Addr.add ⟨b,off,none⟩ j)=⟨b,off+j / 6 * 6+j%6,none⟩ by rw [show off+j / 6 * 6+j%6=off+j by omega];unfold Addr.add;split<;>simp_all]
     rw [this]
     exact hu
theorem one_rg (l:List Rg):∀ u∈l.flatMap ecRg,u.oneCell'=true:=by
 intro u hu
 obtain ⟨x,_,hx⟩:=List.mem_flatMap.1 hu
 unfold ecRg at hx
 simp at hx
 rcases hx with rfl | rfl | rfl | rfl | rfl | rfl<;>rfl
theorem rg_rest {w:World} {a:Option Addr} {n c k:Nat} {l:List Rg} (h:RowsAt ecRg 6 w (.slice a n c) l) (hk:k≤l.length) (hnil:a=none→c=0) :
 (∀ ad,(if c=k then a else Option.map (fun x=>x.add (k * 6)) a)=some ad→∀ j u,((l.drop k).flatMap ecRg)[j]?=some u→w.cell? (ad.add j)=some u)∧((if c=k then a else Option.map (fun x=>x.add (k * 6)) a)=none→l.length - k=0∧c - k=0):=by
 obtain ⟨a',c',e,h1,h2,h3⟩:=h
 injection e with e1 e2 e3
 subst e1 e3
 constructor
 · intro ad had j u hu
   have hj:j < (l.length - k) * 6:=by have:=(ζi.1 hu).1;rwa [flat_len ecRg_len,List.length_drop] at this
   have hck:c≠k:=by omega
   rw [if_neg hck] at had
   obtain ⟨b,off,hb,hc'⟩:=h3 (k+j / 6) _ (ζg (show k+j / 6 < l.length by omega))
   subst hb
   simp only [Option.map_some,Option.some.injEq] at had
   subst had
   have hx:(l.drop k)[j / 6]?=some l[k+j / 6]:=by rw [List.getElem?_drop,ζg (by omega)]
   have:=flat_get ecRg_len (l.drop k) (j / 6) (j%6) (by omega)
   rw [show j / 6 * 6+j%6=j by omega,hx] at this
   rw [this] at hu
   have h5:=hc' (j%6) (by omega)
   have e9:((Addr.add ⟨b,off,none⟩ (k * 6)).add j)=⟨b,off+(k+j / 6) * 6+j%6,none⟩:=by
    rw [show off+(k+j / 6) * 6+j%6=off+k * 6+j by omega,Addr.add_lit,Addr.add_lit]
   rw [e9,h5]
   exact hu
 · intro he
   have ha:a=none:=by
    split at he
    · exact he
    · cases a with
      | none=>rfl
      | some ad=>cases he
   have:=hnil ha
   omega
theorem radd_end {w w5 W4 w4 w6:World} {l:List Rg} {x:Rg} {k cap4:Nat} {v6:Value} {o:Obj} (h5:Mod (fun _=>False) w w5) (hW:W4=(w5.alloc o).drew) (m4:Mod (fun _=>False) W4 w4)
 (m6:Mod (fun q=>some q=(Value.slice (some ⟨w5.heap.size+1,0,none⟩) (k+1) cap4).ownBlock) w4 w6) (hk:k≤l.length)
 (o6:w6.ownsRow w5.heap.size 131 6 v6 (k+1+(l.length - k)) ((l.take k).flatMap ecRg++ecRg x++(l.drop k).flatMap ecRg)) :
 Mod (fun _=>False) w w6∧w6.ownsRow w.heap.size 131 6 v6 (l.take k++x::l.drop k).length ((l.take k++x::l.drop k).flatMap ecRg):=by
 subst hW
 constructor
 · refine (h5.trans (((Mod.refl (fun _=>False) w5).alloc o).drew.trans m4)).trans' m6 (fun i hi he=>?_)
   have e:i=w5.heap.size+1:=by simpa [Value.ownBlock] using he
   have:=h5.size
   omega
 · have e:(l.take k++x::l.drop k).length=k+1+(l.length - k):=by rw [List.length_append,List.length_cons,List.length_take,List.length_drop];omega
   have e2:(l.take k++x::l.drop k).flatMap ecRg=(l.take k).flatMap ecRg++ecRg x++(l.drop k).flatMap ecRg:=by simp
   rw [e,e2]
   exact ownsRow_base o6 h5.size
theorem radd1_any (x y:Rg) (pb:Nat) (w:World) (hp:Blk w pb (ecRg y).toArray 131) :
 Calls Tryz.prog 173 #[.agg (ecRg x).toArray,.pointer (some ⟨pb,0,none⟩)] w fun e w'=>e=.returned (.bool (decide (y.a < x.b)))∧Mod (fun _=>False) w w':=by
 have hm1:=Mod.alloc' (fun _=>False) w (.cells (ecRg x).toArray 131)
 obtain ⟨q0,_⟩:=rg_load hp
 have hlt:=hp.lt
 unfold ecRg at hm1 ⊢
 clear hp
 go_enter Tryz.func173,Tryz.ntmps173
 go_wp2_with fail
 go_ret
 exact ⟨rfl,hm1⟩
theorem atR_le (l:List Rg) (p:Int):atR l p≤l.length:=List.findIdx_le_length
theorem atR_first {l:List Rg} {p:Int}:(firstR (fun y=>decide (p < y.b)) l < 0∧atR l p=l.length)∨(firstR (fun y=>decide (p < y.b)) l=(atR l p:Int)∧atR l p < l.length):=by
 unfold firstR atR
 by_cases h:(l.any fun y=>decide (p < y.b))=true
 · right
   rw [if_pos h]
   exact ⟨rfl,List.findIdx_lt_length.2 (List.any_eq_true.1 h)⟩
 · left
   rw [if_neg h]
   refine ⟨by omega,?_⟩
   rw [List.findIdx_eq_length]
   intro x hx
   rw [Bool.eq_false_iff]
   exact fun e=>h (List.any_eq_true.2 ⟨x,hx,e⟩)
theorem radd_any (l:List Rg) (v:Value) (x:Rg) (w:World) (h:RowsAt ecRg 6 w v l) (hnil:∀ n c,v=.slice none n c→c=0) :
 Calls Tryz.prog 100 #[v,.agg (ecRg x).toArray] w fun e w'=>∃ u,e=.returned (.tuple #[u,.int .i64 (addR l x).1])∧Mod (fun _=>False) w w'∧((addR l x).1=0→w'.ownsRow w.heap.size 131 6 u (addR l x).2.length ((addR l x).2.flatMap ecRg)):=by
 obtain ⟨a,c,rfl,hcap,hmax⟩:=Pro.rows_form h
 unfold maxLen at hmax
 obtain ⟨R,hR⟩:∃ R,R=addR l x:=⟨_,rfl⟩
 rw [←hR]
 unfold addR at hR
 have HR:=ζh hR
 have HH:=ζh h
 have HNIL:=ζh (show a=none→c=0 from fun e=>hnil l.length c (by rw [e]))
 clear hR h hnil
 unfold ecRg
 go_enter Tryz.func100,Tryz.ntmps100
 go_upto_region 1 with fail
 have hb1:Blk (w.alloc (.cells (ecRg x).toArray 131)) w.heap.size (ecRg x).toArray 131:=Blk.new _ _ _
 have hm1:=Mod.alloc' (fun _=>False) w (.cells (ecRg x).toArray 131)
 unfold ecRg at hb1 hm1
 obtain ⟨wa,hwa⟩:∃ wa,wa=w.alloc (.cells #[.int .i64 x.a,.int .i64 x.b,.int .i64 x.k,.int .i64 x.f,.int .i64 x.i,.bool x.wr] 131):=⟨_,rfl⟩
 have sa:wa.heap.size=w.heap.size+1:=by rw [hwa];simp
 rw [←hwa] at hb1 hm1 ⊢
 have hb1':Blk wa w.heap.size (ecRg x).toArray 131:=hb1
 have hrow:=HH.out.keep ecRg_len hm1 (fun _ _ x=>x)
 obtain ⟨q0,q1,q2,q3,q4,q5⟩:=rg_load hb1'
 have hri:=rright_any l _ wa hrow
 have HB:=ζh hb1'
 have HROW:=ζh hrow
 have HM:=ζh hm1
 have HSA:=ζh sa
 clear hb1 hb1' hm1 hwa hrow sa
 cases hrr:rightR 0 l with
 | false =>
   rw [hrr] at hri
   have hr:R=(1,[]):=by rw [HR.out,if_pos (.inl hrr)]
   have HRN:=ζh hr
   have HRI:=ζh hri
   clear hr hri hrr
   go_wp2_with fail
   refine HRI.out.mono ?_
   rintro e w1 ⟨rfl,hm1⟩
   go_wp2_with fail
   go_ret2
   rw [HRN.out]
   exact ⟨_,rfl,HM.out.trans hm1,fun h=>by cases h⟩
 | true =>
   rw [hrr] at hri
   have HRI:=ζh hri
   clear hri
   cases hvv:validR x with
   | false =>
     have hr:R=(1,[]):=by rw [HR.out,if_pos (.inr (.inl hvv))]
     have HRN:=ζh hr
     clear hr hrr
     go_wp2_with fail
     refine HRI.out.mono ?_
     rintro e w1 ⟨rfl,hm1⟩
     obtain ⟨q0,q1,q2,q3,q4,q5⟩:=rg_load (HB.out.keep hm1 (fun x=>x))
     have hva:=rvalid_any x w1
     rw [hvv] at hva
     unfold ecRg at hva
     have HVA:=ζh hva
     clear hva hvv
     go_wp2_with fail
     refine HVA.out.mono ?_
     rintro e w2 ⟨rfl,hm2⟩
     go_wp2_with fail
     go_ret2
     rw [HRN.out]
     exact ⟨_,rfl,(HM.out.trans hm1).trans hm2,fun h=>by cases h⟩
   | true =>
     by_cases h64:64≤l.length
     · have d0:decide (64≤(l.length:Int))=true:=decide_eq_true (by omega)
       have hr:R=(1,[]):=by rw [HR.out,if_pos (.inr (.inr h64))]
       have HRN:=ζh hr
       clear hr hrr h64
       go_wp2_with fail
       refine HRI.out.mono ?_
       rintro e w1 ⟨rfl,hm1⟩
       obtain ⟨q0,q1,q2,q3,q4,q5⟩:=rg_load (HB.out.keep hm1 (fun x=>x))
       have hva:=rvalid_any x w1
       rw [hvv] at hva
       unfold ecRg at hva
       have HVA:=ζh hva
       clear hva hvv
       go_wp2_with fail
       refine HVA.out.mono ?_
       rintro e w2 ⟨rfl,hm2⟩
       go_wp2_with fail
       go_ret2
       rw [HRN.out]
       exact ⟨_,rfl,(HM.out.trans hm1).trans hm2,fun h=>by cases h⟩
     · have d0:decide (64≤(l.length:Int))=false:=decide_eq_false (by omega)
       have hr:=HR.out
       rw [if_neg (by rw [hrr,hvv];simp;omega)] at hr
       have HRN:=ζh hr
       clear hr hrr
       go_wp2_with fail
       refine HRI.out.mono ?_
       rintro e w1 ⟨rfl,hm1⟩
       obtain ⟨q0,q1,q2,q3,q4,q5⟩:=rg_load (HB.out.keep hm1 (fun x=>x))
       have hva:=rvalid_any x w1
       rw [hvv] at hva
       unfold ecRg at hva
       have HVA:=ζh hva
       clear hva hvv
       go_wp2_with fail
       refine HVA.out.mono ?_
       rintro e w2 ⟨rfl,hm2⟩
       have hbx:=HB.out.keep (hm1.trans hm2) (fun x=>x)
       have hix:=rixfunc_any (fun y=>decide (x.a < y.b)) 173 #[.pointer (some ⟨w.heap.size,0,none⟩)] l _ w2 (HROW.out.keep ecRg_len (hm1.trans hm2) (fun _ _ x=>x)) ⟨fun y w' hm=>radd1_any y x w.heap.size w' (hbx.keep hm (fun x=>x)),enters_of Tryz.func173 (by kernel_rfl) rfl⟩
       have HIX:=ζh hix
       have HM2:=ζh ((HM.out.trans hm1).trans hm2)
       have HBX:=ζh hbx
       clear hix hbx
       obtain ⟨k,hk⟩:∃ k,k=atR l x.a:=⟨_,rfl⟩
       have hr:=HRN.out
       rw [←hk] at hr
       have HRK:=ζh hr
       have hkl:k≤l.length:=by rw [hk];exact atR_le l x.a
       have hcs:=atR_first (l:=l) (p:=x.a)
       rw [←hk] at hcs
       clear hr hk HRN
       rcases hcs with ⟨c1,c2⟩ | ⟨c1,c2⟩
       · have d1:decide (firstR (fun y=>decide (x.a < y.b)) l < 0)=true:=decide_eq_true c1
         subst c2
         clear c1
         go_wp2_with fail
         refine HIX.out.mono ?_
         rintro e w3 ⟨rfl,hm3⟩
         go_wp2_with fail
         have d2:decide ((l.length:Int) < (l.length:Int))=false:=decide_eq_false (by omega)
         go_quiet (fail)
         have d3:(0:Int)≤(l.length:Int):=by omega
         have d4:(l.length:Int)≤(c:Int):=by omega
         go_wp2_with fail
         have hm35:Mod (fun _=>False) w2 (w3.drewN nq):=hm3.drewN nq
         obtain ⟨w5,hw5⟩:∃ w5,w5=w3.drewN nq:=⟨_,rfl⟩
         rw [←hw5] at hm35 ⊢
         have hm5:=((Mod.refl _ wa).trans hm1).trans (hm2.trans hm35)
         have hrw:=fun (w':World) (h:Mod (fun _=>False) w5 w')=>HROW.out.keep ecRg_len (hm5.trans h) (fun _ _ x=>x)
         obtain ⟨z0,z1,z2,z3,z4,z5⟩:=rg_load (HB.out.keep hm5 (fun x=>x))
         have HRW:=ζh hrw
         have HM5:=ζh (HM.out.trans hm5)
         clear hw5 hrw hm35 hm5 q0 q1 q2 q3 q4 q5
         go_region_law (first
          | (refine step_full (by rfl) _ _ _ (by rfl) 131 _ 6 48 Tryz.underlying90 info_rg rfl (by decide) _ l.length ((l.take l.length).flatMap ecRg) (by rfl) (by rw [flat_len ecRg_len,List.length_take,Nat.min_self]) (rg_first (HRW.out _ (((Mod.refl _ w5).drew.alloc _).drew)) (Nat.le_refl _)) _ 1 (ecRg x) (by rfl) (by rfl) (World.news_of_block (cs:=#[.int .i64 x.a,.int .i64 x.b,.int .i64 x.k,.int .i64 x.f,.int .i64 x.i,.bool x.wr]) (t:=131) (fr:=(0,0)) (heap_alloc_new _ _)) (by simp [ecRg,Value.oneCell']) (by omega) ?_;intro cap4 w4 o4 m4 l4;have o5:w4.ownsRow w5.heap.size 131 6 (.slice (some ⟨w5.heap.size+1,0,none⟩) (l.length+1) cap4) (l.length+1) ((l.take l.length).flatMap ecRg++ecRg x):=(by have h9:=ownsRow_base (base':=w5.heap.size) o4 (by simp);simpa using h9);have l5:w5.heap.size≤w4.heap.size:=(by have:=m4.size;simp at this;omega);have hrs:=rg_rest (k:=l.length) (HRW.out _ (((Mod.refl _ w5).drew.alloc _).trans m4)) (Nat.le_refl _) HNIL.out)
          | (refine step_own_at (by rfl) _ _ _ (by rfl) w5.heap.size 131 _ 6 48 Tryz.underlying90 info_rg rfl (by decide) (by decide) _ _ _ (by rfl) o5 _ (l.length - l.length) _ ((l.drop l.length).flatMap ecRg) (by simp;rfl) (by rw [flat_len ecRg_len,List.length_drop]) hrs.1 hrs.2 (one_rg _) (by omega) l5 ?_;intro v6 w6 o6 m6))
         go_wp2_with fail
         all_goals
          go_ret2
          have hrr:R=(0,l.take l.length++x::l.drop l.length):=by
           rw [HRK.out,if_neg]
           rw [List.drop_length]
           simp
          have hen:=radd_end HM5.out rfl m4 m6 (Nat.le_refl _) o6
          rw [hrr]
          exact ⟨_,rfl,hen.1,fun _=>hen.2⟩
       · have d1:decide (firstR (fun y=>decide (x.a < y.b)) l < 0)=false:=decide_eq_false (by rw [c1];omega)
         rw [c1] at HIX d1
         have HKL:=ζh hkl
         have hx:l[k]?=some l[k]:=ζg c2
         obtain ⟨y,hy⟩:∃ y,y=l[k]:=⟨_,rfl⟩
         rw [←hy] at hx
         have d2:decide ((k:Int) < (l.length:Int))=true:=decide_eq_true (by omega)
         have HX:=ζh hx
         have hrk:=HRK.out
         rw [show (l.drop k).head?=some y by rw [List.head?_drop];exact hx] at hrk
         simp only [Option.any_some,decide_eq_true_eq] at hrk
         have HRL:=ζh hrk
         have HC2:=ζh c2
         clear c1 c2 hkl hx hy hrk HRK
         go_wp2_with fail
         refine HIX.out.mono ?_
         rintro e w3 ⟨rfl,hm3⟩
         have hm3':=((Mod.refl _ wa).trans hm1).trans (hm2.trans hm3)
         have hrw3:=HROW.out.keep ecRg_len hm3' (fun _ _ x=>x)
         obtain ⟨rb,ro,rfl,y0,y1,y2,y3,y4,y5⟩:=rg_cells hrw3 HX.out
         obtain ⟨x0,x1,_⟩:=rg_load (HB.out.keep hm3' (fun x=>x))
         have dk0:(0:Int)≤(k:Int):=by omega
         have dk1:(k:Int) < (l.length:Int):=by have:=HC2.out;omega
         by_cases hov:y.a < x.b
         · have dov:decide (y.a < x.b)=true:=decide_eq_true hov
           have hr:=HRL.out
           rw [if_pos hov] at hr
           have HR4:=ζh hr
           have HM3:=ζh (HM.out.trans hm3')
           clear hr hov hm3' hrw3
           go_wp2_with fail
           go_quiet (fail)
           go_wp2_with fail
           go_ret2
           rw [HR4.out]
           exact ⟨_,rfl,HM3.out.drewN _,fun h=>by cases h⟩
         · have dov:decide (y.a < x.b)=false:=decide_eq_false hov
           have hr:=HRL.out
           rw [if_neg hov] at hr
           have HR4:=ζh hr
           clear hr hov hm3' hrw3
           go_wp2_with fail
           go_quiet (fail)
           go_wp2_with fail
           have d4:(k:Int)≤(c:Int):=by have:=HC2.out;omega
           have d5:(k:Int)≤(l.length:Int):=by omega
           have hkl:k≤l.length:=by have:=HC2.out;omega
           have HKL:=ζh hkl
           have hm35:Mod (fun _=>False) w2 (w3.drewN nq):=hm3.drewN nq
           obtain ⟨w5,hw5⟩:∃ w5,w5=w3.drewN nq:=⟨_,rfl⟩
           rw [←hw5] at hm35 ⊢
           have hm5:=((Mod.refl _ wa).trans hm1).trans (hm2.trans hm35)
           have hrw:=fun (w':World) (h:Mod (fun _=>False) w5 w')=>HROW.out.keep ecRg_len (hm5.trans h) (fun _ _ x=>x)
           obtain ⟨z0,z1,z2,z3,z4,z5⟩:=rg_load (HB.out.keep hm5 (fun x=>x))
           have HRW:=ζh hrw
           have HM5:=ζh (HM.out.trans hm5)
           clear hw5 hrw hm35 hm5 q0 q1 q2 q3 q4 q5 x0 x1 y0 y1 y2 y3 y4 y5 hkl
           go_region_law (first
            | (refine step_full (by rfl) _ _ _ (by rfl) 131 _ 6 48 Tryz.underlying90 info_rg rfl (by decide) _ k ((l.take k).flatMap ecRg) (by rfl) (by rw [flat_len ecRg_len,List.length_take,Nat.min_eq_left HKL.out]) (rg_first (HRW.out _ (((Mod.refl _ w5).drew.alloc _).drew)) HKL.out) _ 1 (ecRg x) (by rfl) (by rfl) (World.news_of_block (cs:=#[.int .i64 x.a,.int .i64 x.b,.int .i64 x.k,.int .i64 x.f,.int .i64 x.i,.bool x.wr]) (t:=131) (fr:=(0,0)) (heap_alloc_new _ _)) (by simp [ecRg,Value.oneCell']) (by omega) ?_;intro cap4 w4 o4 m4 l4;have o5:w4.ownsRow w5.heap.size 131 6 (.slice (some ⟨w5.heap.size+1,0,none⟩) (k+1) cap4) (k+1) ((l.take k).flatMap ecRg++ecRg x):=(by have h9:=ownsRow_base (base':=w5.heap.size) o4 (by simp);simpa using h9);have l5:w5.heap.size≤w4.heap.size:=(by have:=m4.size;simp at this;omega);have hrs:=rg_rest (k:=k) (HRW.out _ (((Mod.refl _ w5).drew.alloc _).trans m4)) HKL.out HNIL.out)
            | (refine step_own_at (by rfl) _ _ _ (by rfl) w5.heap.size 131 _ 6 48 Tryz.underlying90 info_rg rfl (by decide) (by decide) _ _ _ (by rfl) o5 _ (l.length - k) _ ((l.drop k).flatMap ecRg) (by (conv=>lhs;whnf);rw [Option.map_some,Addr.add_lit]) (by rw [flat_len ecRg_len,List.length_drop]) hrs.1 hrs.2 (one_rg _) (by omega) l5 ?_;intro v6 w6 o6 m6))
           go_wp2_with fail
           all_goals
            go_ret2
            have hen:=radd_end HM5.out rfl m4 m6 HKL.out o6
            rw [HR4.out]
            exact ⟨_,rfl,hen.1,fun _=>hen.2⟩
end Reg

namespace Reg
open Go.RowKit Go.Shelf
attribute [local go_sem] Oper.semAt_some
def rdC (w:World) (b:Nat):Value:=(w.cell? ⟨b,0,none⟩).getD undef
theorem rdC_of {w:World} {b:Nat} {x:Value} (h:w.cell? ⟨b,0,none⟩=some x):rdC w b=x:=by unfold rdC;rw [h];rfl
theorem keep_end {w w1 w4:World} {base cb g cap n:Nat} {v:Value} {xs news:List Value} {o:Obj} (hmp:Mod (fun _=>False) w w1) (hlt:cb < w.heap.size) (hne:∀ g,g=cb→¬ (some g=v.ownBlock))
 (m4:Mod (fun k=>some k=v.ownBlock) (w1.alloc o) w4) (g4:v.ownBlock=some g∨g=(w1.alloc o).heap.size) (o4:w4.ownsRow base 131 6 (.slice (some ⟨g,0,none⟩) (n+1) cap) (n+1) (xs++news))
 (j4:Blk w4 cb #[v] 90):let u:=Value.slice (some ⟨g,0,none⟩) (n+1) cap;let w5:=w4.setCell ⟨cb,0,none⟩ u
 Blk w5 cb #[u] 90∧w5.ownsRow base 131 6 u (n+1) (xs++news)∧Mod (fun k=>k=cb∨v.ownBlock=some k) w w5∧(∀ g',u.ownBlock=some g'→v.ownBlock=some g'∨w.heap.size≤g'):=by
 have hg:g≠cb:=by
  rcases g4 with h | h
  · exact fun e=>hne g e h.symm
  · have:=hmp.size;simp at h;omega
 refine ⟨by simpa using j4.set 0 (Value.slice (some ⟨g,0,none⟩) (n+1) cap),ownsRow_keep o4 (mod_setCell w4 cb 0 _) (fun q hq e=>hg (by have:g=q:=(by simpa [Value.ownBlock] using hq);omega)),?_,?_⟩
 · exact (((hmp.mono (fun _ h=>h.elim)).trans (Mod.alloc' _ w1 o)).trans' m4 (fun i hi e=>.inr e.symm)).trans' (mod_setCell w4 cb 0 _) (fun i hi e=>.inl e)
 · intro g' hg'
   have e:g=g':=by simpa [Value.ownBlock] using hg'
   subst e
   rcases g4 with h | h
   · exact .inl h
   · refine .inr ?_
     have:=hmp.size
     simp at h
     omega
theorem rkeep_any (base cb:Nat) (v:Value) (n:Nat) (xs:List Value) (x:Rg) (p q:Int) (w:World) (hfit:p < q→x.k=2→0≤x.i∧0≤x.a∧x.a≤p∧x.i+p < 4611686018427387904)
 (hb:Blk w cb #[v] 90) (ho:w.ownsRow base 131 6 v n xs) (hn:n≤1000000) (hbase:base≤w.heap.size) :
 Calls Tryz.prog 175 #[.agg (ecRg x).toArray,.int .i64 p,.int .i64 q,.pointer (some ⟨cb,0,none⟩)] w fun e w'=>e=.returned (.tuple #[]) ∧
  ∃ v',Blk w' cb #[v'] 90∧w'.ownsRow base 131 6 v' (n+(keepR x p q).length) (xs++(keepR x p q).flatMap ecRg)∧Mod (fun k=>k=cb∨v.ownBlock=some k) w w'∧(∀ g,v'.ownBlock=some g→v.ownBlock=some g∨w.heap.size≤g):=by
 have hm1:=Mod.alloc' (fun _=>False) w (.cells (ecRg x).toArray 131)
 have hb1:Blk (w.alloc (.cells (ecRg x).toArray 131)) w.heap.size (ecRg x).toArray 131:=Blk.new _ _ _
 have hb2:=hb.alloc (.cells (ecRg x).toArray 131)
 have ho2:=ho.alloc (.cells (ecRg x).toArray 131)
 have hne:=ownsRow_ne_blk ho hb (by decide)
 have hlt:=hb.lt
 unfold ecRg at hm1 hb1 hb2 ho2 ⊢
 obtain ⟨wa,hwa⟩:∃ wa,wa=w.alloc (.cells #[.int .i64 x.a,.int .i64 x.b,.int .i64 x.k,.int .i64 x.f,.int .i64 x.i,.bool x.wr] 131):=⟨_,rfl⟩
 have sa:wa.heap.size=w.heap.size+1:=by rw [hwa];simp
 by_cases hpq:p < q
 · have d0:decide (p < q)=true:=decide_eq_true hpq
   have hk:keepR x p q=[partR x p q]:=if_pos hpq
   have hf:=hfit hpq
   rw [hk]
   have HF:=ζh hf
   have HB:=ζh hb
   have HO:=ζh ho
   have HNE:=ζh hne
   clear hk hf hfit hpq hb ho hne
   go_enter Tryz.func175,Tryz.ntmps175
   go_upto_region 1 with fail
   rw [←hwa] at hm1 hb1 hb2 ho2 ⊢
   have hb1':Blk wa w.heap.size (ecRg x).toArray 131:=hb1
   obtain ⟨q0,q1,q2,q3,q4,q5⟩:=rg_load hb1'
   have hc0:=hb2.cell 0
   simp only [ζa,ζb] at hc0
   have hpt:=fun w=>rpart_any x p q HF.out w
   unfold ecRg at hpt
   have HPT:=ζh hpt
   have HB1:=ζh hb1
   have HB2:=ζh hb2
   have HO2:=ζh ho2
   have HM:=ζh hm1
   clear hwa hpt hb1 hb1' hb2 ho2 hm1
   go_wp2_with fail
   have hfz:=HB2.out.frozen 0
   have hrd0:rdC wa.drew cb=v:=rdC_of (by simpa using hc0)
   have hcb:wa.cell? ⟨cb,0,none⟩=some v:=by simpa using hc0
   clear hc0
   have HNB:Hid (∀ g,g=w.heap.size→¬ (some g=v.ownBlock)):=ζh (fun g hg e=>by have:=ownsRow_lt HO.out g e.symm;omega)
   have HNC:Hid (∀ g,g=cb→¬ (some g=v.ownBlock)):=ζh (fun g hg e=>HNE.out g e.symm hg)
   have HBC:Hid (w.heap.size≠cb):=ζh (by omega)
   obtain ⟨k0,k1,k2,k3,k4,k5⟩:=rg_load HB1.out
   go_region_law (first
    | (refine step_app (by rfl) _ _ _ (by rfl) base 131 _ 6 48 Tryz.underlying90 info_rg rfl (by decide) (by decide) v n _ (by rfl) (by first | exact O1.alloc _ | exact (O1.alloc _).drew) ⟨w1.heap.size,0,none⟩ 1 (ecRg (partR x p q)) (by rfl) (by rfl) (World.news_of_block (cs:=(ecRg (partR x p q)).toArray) (t:=131) (fr:=(0,0)) (heap_alloc_new _ _)) (by simp [ecRg,Value.oneCell']) (by omega) (by have:=hmp.size;simp;omega) ?_;intro g cap4 w4 o4 m4 g4 l4;have J3:=(J1.alloc _).keep m4 (HNB.out _ rfl);have J4:=(J2.alloc _).keep m4 (HNC.out _ rfl);have f4:=J4.frozen 0;have c4:w4.cell? ⟨cb,0,none⟩=some v:=(by simpa using J4.cell 0))
    | (go_simp;go_wp2_with (go_at_call 176;refine (HPT.out _).mono ?_;rintro e w1 ⟨rfl,hmp'⟩;have hmp:Mod (fun _=>False) wa w1:=(Mod.refl _ _).drew.trans hmp';have J1:=HB1.out.keep hmp (fun x=>x);have J2:=HB2.out.keep hmp (fun x=>x);obtain ⟨r0,r1,r2,r3,r4,r5⟩:=rg_load J1;have rc:w1.cell? ⟨cb,0,none⟩=some v:=(by simpa using J2.cell 0);have rf:=J2.frozen 0;have rc2:∀ o,(w1.alloc o).cell? ⟨cb,0,none⟩=some v:=(fun o=>by simpa using (J2.alloc o).cell 0);have rf2:∀ o,(w1.alloc o).frozen? ⟨cb,0,none⟩=false:=(fun o=>(J2.alloc o).frozen 0);have O1:=ownsRow_keep HO2.out hmp (fun _ _ x=>x))))
   all_goals
    go_end0
    have hen:=keep_end (HM.out.trans hmp) hlt HNC.out m4 g4 o4 J4
    refine ⟨rfl,_,hen.1,?_,hen.2.2.1,hen.2.2.2⟩
    simpa [ecRg] using hen.2.1
 · have d0:decide (p < q)=false:=decide_eq_false hpq
   have hk:keepR x p q=[]:=if_neg hpq
   rw [hk]
   clear hfit hk hpq
   go_enter Tryz.func175,Tryz.ntmps175
   go_wp2_with fail
   rw [←hwa] at hm1 hb2 ho2 ⊢
   go_end0
   refine ⟨rfl,v,hb2,?_,hm1.mono (fun _ h=>h.elim),fun g hg=>.inl hg⟩
   simpa using ho2
theorem rkeep_lit (base cb:Nat) (v:Value) (n:Nat) (xs:List Value) (x:Rg) (p q:Int) (w:World) (hfit:p < q→x.k=2→0≤x.i∧0≤x.a∧x.a≤p∧x.i+p < 4611686018427387904)
 (hb:Blk w cb #[v] 90) (ho:w.ownsRow base 131 6 v n xs) (hn:n≤1000000) (hbase:base≤w.heap.size) :
 Calls Tryz.prog 175 #[.agg #[.int .i64 x.a,.int .i64 x.b,.int .i64 x.k,.int .i64 x.f,.int .i64 x.i,.bool x.wr],.int .i64 p,.int .i64 q,.pointer (some ⟨cb,0,none⟩)] w fun e w'=>e=.returned (.tuple #[]) ∧
  ∃ v',Blk w' cb #[v'] 90∧w'.ownsRow base 131 6 v' (n+(keepR x p q).length) (xs++(keepR x p q).flatMap ecRg)∧Mod (fun k=>k=cb∨v.ownBlock=some k) w w'∧(∀ g,v'.ownBlock=some g→v.ownBlock=some g∨w.heap.size≤g) :=
 rkeep_any base cb v n xs x p q w hfit hb ho hn hbase
theorem rightR_valid:∀ (l:List Rg) (z:Int),rightR z l=true→∀ x∈l,validR x=true:=by
 intro l
 induction l with
 | nil=>intro z _ x hx;cases hx
 | cons y r ih =>
   intro z h x hx
   rw [rightR_cons,Bool.and_eq_true,Bool.and_eq_true] at h
   rcases List.mem_cons.1 hx with rfl | hx
   · exact h.1.1
   · exact ih _ h.2 x hx
theorem validR_nums {x:Rg} (h:validR x=true):0≤x.a∧x.a < x.b∧x.b≤65536∧(x.k=2→0≤x.i∧x.i≤2097152):=by
 unfold validR spanR at h
 simp only [Bool.and_eq_true,decide_eq_true_eq] at h
 obtain ⟨⟨⟨h1,h2⟩,h3⟩,h4⟩:=h
 refine ⟨h1,h2,h3,fun hk=>?_⟩
 rw [if_neg (by omega),if_pos hk] at h4
 simp only [Bool.and_eq_true,decide_eq_true_eq] at h4
 omega
theorem keepR_le (x:Rg) (p q:Int):(keepR x p q).length≤1:=by unfold keepR;split<;>simp
theorem cutR1_le (p q:Int) (x:Rg):(cutR1 p q x).length≤2:=by
 unfold cutR1
 split
 · have:=keepR_le x x.a x.b;omega
 · rw [List.length_append];have:=keepR_le x x.a (min x.b p);have:=keepR_le x (max x.a q) x.b;omega
theorem flat_cut_le (p q:Int):∀ l:List Rg,(l.flatMap (cutR1 p q)).length≤2 * l.length:=by
 intro l
 induction l with
 | nil=>simp
 | cons x r ih=>rw [List.flatMap_cons,List.length_append,List.length_cons];have:=cutR1_le p q x;omega
theorem take_flat (f:Rg→List Rg) {l:List Rg} {k:Nat} {x:Rg} (h:l[k]?=some x):(l.take (k+1)).flatMap f=(l.take k).flatMap f++f x:=by
 rw [List.take_add_one,h];simp
theorem rcut_any (l:List Rg) (v0:Value) (p q:Int) (w:World) (h:RowsAt ecRg 6 w v0 l) (hlen:l.length≤100000) :
 Calls Tryz.prog 106 #[v0,.int .i64 p,.int .i64 q] w fun e w'=>∃ u,e=.returned u∧w'.ownsRow w.heap.size 131 6 u (cutR l p q).length ((cutR l p q).flatMap ecRg)∧Mod (fun _=>False) w w':=by
 obtain ⟨a,c,rfl,hcap,hmax⟩:=Pro.rows_form h
 unfold maxLen at hmax
 obtain ⟨R,hR⟩:∃ R,R=cutR l p q:=⟨_,rfl⟩
 rw [←hR]
 unfold cutR at hR
 have hri:=rright_any l _ w h
 have HR:=ζh hR
 have HH:=ζh h
 clear hR h
 unfold ecRg
 cases hrr:rightR 0 l with
 | false =>
   rw [hrr] at hri
   have hr:R=[]:=by rw [HR.out,hrr,if_neg (by decide)]
   have HRN:=ζh hr
   have HRI:=ζh hri
   clear hr hri hrr
   go_enter Tryz.func106,Tryz.ntmps106
   go_wp2_with fail
   refine HRI.out.mono ?_
   rintro e w1 ⟨rfl,hm1⟩
   go_wp2_with fail
   go_ret
   rw [HRN.out]
   exact ⟨_,rfl,⟨rfl,.inl ⟨rfl,rfl⟩⟩,hm1⟩
 | true =>
   rw [hrr] at hri
   have hr:R=l.flatMap (cutR1 p q):=by rw [HR.out,hrr,if_pos rfl]
   have HRN:=ζh hr
   have HRI:=ζh hri
   have HRR:=ζh hrr
   clear hr hri hrr
   go_enter Tryz.func106,Tryz.ntmps106
   go_wp2_with fail
   refine HRI.out.mono ?_
   rintro e w1 ⟨rfl,hm1⟩
   go_wp2_with fail
   obtain ⟨cb,hcb⟩:∃ cb,cb=w1.heap.size:=⟨_,rfl⟩
   have hsz:=hm1.size
   have hb0:=Blk.new w1 #[.slice none 0 0] 90
   rw [←hcb] at hb0 ⊢
   have hm0:Mod (fun _=>False) w (w1.alloc (.cells #[.slice none 0 0] 90)):=hm1.alloc _
   have hcw:w.heap.size≤cb:=by omega
   clear hcb hsz
   go_loopw [17] (fun i wr=>∃ (k:Nat) (v:Value),k≤l.length∧i=.int .i64 k∧Hid (Blk wr cb #[v] 90)∧Hid (wr.ownsRow w.heap.size 131 6 v ((l.take k).flatMap (cutR1 p q)).length (((l.take k).flatMap (cutR1 p q)).flatMap ecRg))∧Hid (Mod (fun _=>False) w wr)) (fun i _=>l.length - (intOf i).toNat)
   case atStart =>
    refine ⟨0,_,by omega,rfl,ζh hb0,ζh ⟨by simp,.inl ⟨rfl,by simp⟩⟩,ζh hm0⟩
   case round =>
    obtain ⟨k,v,hk,rfl,HB,HO,HM⟩:=hrel
    obtain ⟨wo,rfl⟩:∃ wo:World,wo=wr:=⟨_,rfl⟩
    by_cases hlt:k < l.length
    · have hkI:(k:Int) < l.length:=by omega
      have hkN:0≤(k:Int):=by omega
      obtain ⟨x,hx⟩:∃ x,l[k]?=some x:=⟨_,ζg hlt⟩
      obtain ⟨n1,n2,n3,n4⟩:=validR_nums (rightR_valid l 0 HRR.out x (ζm hx))
      have htk:=take_flat (cutR1 p q) hx
      obtain ⟨pre,hpre⟩:∃ pre,pre=(l.take k).flatMap (cutR1 p q):=⟨_,rfl⟩
      have hpl:pre.length≤2 * k:=by rw [hpre];have:=flat_cut_le p q (l.take k);rw [List.length_take] at this;omega
      rw [←hpre] at HO htk
      obtain ⟨rb,ro,rfl,c0,c1,c2,c3,c4,c5⟩:=rg_cells (HH.out.keep ecRg_len HM.out (fun _ _ x=>x)) hx
      have HX:=ζh hx
      have HTK:=ζh htk
      clear hx htk hpre
      go_upto_region 8 with fail
      have hb1:=Blk.new wo (ecRg x).toArray 131
      have hm1':=Mod.alloc' (fun _=>False) wo (.cells (ecRg x).toArray 131)
      have hb2:=HB.out.alloc (.cells (ecRg x).toArray 131)
      have ho2:=HO.out.alloc (.cells (ecRg x).toArray 131)
      have hvw:=ownsRow_lt HO.out
      have hcbl:=HB.out.lt
      unfold ecRg at hb1 hm1' hb2 ho2
      obtain ⟨wx,hwx⟩:∃ wx,wx=wo.alloc (.cells #[.int .i64 x.a,.int .i64 x.b,.int .i64 x.k,.int .i64 x.f,.int .i64 x.i,.bool x.wr] 131):=⟨_,rfl⟩
      have hsx:wx.heap.size=wo.heap.size+1:=by rw [hwx];simp
      rw [←hwx] at hb1 hm1' hb2 ho2 ⊢
      clear hwx
      have hb1':Blk wx wo.heap.size (ecRg x).toArray 131:=hb1
      have hMx:=HM.out.trans hm1'
      obtain ⟨e0,e1,e2,e3,e4,e5⟩:=rg_load hb1'
      have hkp:=fun (p' q':Int) (h0:x.a≤p') (h9:q'≤x.b)=>rkeep_lit w.heap.size cb v pre.length (pre.flatMap ecRg) x p' q' wx (fun hpq hk2=>by have:=n4 hk2;omega) hb2 ho2 (by omega) hMx.size
      have hnw:∀ i,i < w.heap.size→(i=cb∨v.ownBlock=some i)→False:=fun i hi e=>by
       rcases e with e | e
       · omega
       · have:=ownsRow_ge HO.out i e;omega
      have HNW:=ζh hnw
      clear hnw
      by_cases hqp:q≤p
      · have dqp:decide (q≤p)=true:=decide_eq_true hqp
        have hk1:=hkp x.a x.b (Int.le_refl _) (Int.le_refl _)
        have HK1:=ζh hk1
        have hcr:cutR1 p q x=keepR x x.a x.b:=if_pos hqp
        have HCR:=ζh hcr
        clear hk1 hkp hcr hqp hb1 hb1' hb2 ho2
        go_wp2_with fail
        refine HK1.out.mono ?_
        rintro e w2 ⟨rfl,v',hb',ho',hm',hg'⟩
        go_wp2_with fail
        go_roundw
        case rel =>
         refine ⟨k+1,v',by omega,by go_num,ζh hb',ζh ?_,ζh (hMx.trans' hm' HNW.out)⟩
         rw [HTK.out,HCR.out,List.length_append,List.flatMap_append]
         exact ho'
        case measure=>simp [intOf];omega
      · have dqp:decide (q≤p)=false:=decide_eq_false hqp
        have hk1:=hkp x.a (min x.b p) (Int.le_refl _) (by omega)
        have HK1:=ζh hk1
        have hcr:cutR1 p q x=keepR x x.a (min x.b p)++keepR x (max x.a q) x.b:=if_neg hqp
        have HCR:=ζh hcr
        have HB1:=ζh hb1'
        clear hk1 hkp hcr hqp hb1 hb1' hb2 ho2
        go_wp2_with fail
        refine HK1.out.mono ?_
        rintro e w2 ⟨rfl,v',hb',ho',hm',hg'⟩
        have hne2:¬ (wo.heap.size=cb∨v.ownBlock=some wo.heap.size):=fun e=>by
         rcases e with e | e
         · omega
         · have:=hvw _ e;omega
        have hb2':=HB1.out.keep hm' hne2
        obtain ⟨f0,f1,f2,f3,f4,f5⟩:=rg_load hb2'
        have hM2:=hMx.trans' hm' HNW.out
        have hk2:=rkeep_lit w.heap.size cb v' _ _ x (max x.a q) x.b w2 (fun hpq hk2=>by have:=n4 hk2;omega) hb' ho' (by have:=keepR_le x x.a (min x.b p);omega) hM2.size
        have HK2:=ζh hk2
        have HM2:=ζh hM2
        have hnw2:∀ i,i < w.heap.size→(i=cb∨v'.ownBlock=some i)→False:=fun i hi e=>by
         rcases e with e | e
         · omega
         · have:=ownsRow_ge ho' i e;omega
        have HNW2:=ζh hnw2
        clear hk2 hb2' hM2 hm' hb' ho' hg' hne2 hnw2 e0 e1 e2 e3 e4 e5
        go_wp2_with fail
        refine HK2.out.mono ?_
        rintro e w3 ⟨rfl,v3,hb3,ho3,hm3,hg3⟩
        go_wp2_with fail
        go_roundw
        case rel =>
         refine ⟨k+1,v3,by omega,by go_num,ζh hb3,ζh ?_,ζh (HM2.out.trans' hm3 HNW2.out)⟩
         rw [HTK.out,HCR.out,List.length_append,List.length_append,List.flatMap_append,List.flatMap_append,←Nat.add_assoc,←List.append_assoc]
         exact ho3
        case measure=>simp [intOf];omega
    · obtain rfl:k=l.length:=by omega
      rw [List.take_length] at HO
      obtain ⟨L9,hL9⟩:∃ L9,L9=l.flatMap (cutR1 p q):=⟨_,rfl⟩
      rw [←hL9] at HO HRN
      clear hL9
      obtain ⟨a9,c9,rfl⟩:=ownsRow_form HO.out
      have hc0:=HB.out.cell 0
      simp only [ζa,ζb] at hc0
      go_wp2_with fail
      go_ret
      rw [HRN.out]
      exact ⟨_,rfl,HO.out,HM.out⟩
end Reg

section
open Go.RowKit Go.Shelf
attribute [local go_sem] Oper.semAt_some
theorem and15 (k:Nat) (hk:k < 2 ^ 63):bits .and .i64 (k:Int) 15=((k%16:Nat):Int):=by
 have h:=and_i k 15 hk (by omega)
 have e:k &&& 15=k%16:=Nat.and_two_pow_sub_one_eq_mod k 4
 rw [e] at h
 exact h
def dig (p l:Nat):Nat:=p / 16 ^ (3 - l)%16
theorem digit_any (p l:Nat) (hp:p < 65536) (hl:l≤3) (w:World):Calls Tryz.prog 179 #[.int .i64 p,.int .i64 l] w fun e w'=>e=.returned (.int .i64 (dig p l:Nat))∧w=w':=by
 have h3:bits .and .i64 (p:Int) 15=(dig p 3:Int):=by rw [and15 p (by omega)];unfold dig;simp
 have h2:bits .and .i64 ((p:Int) / 16) 15=(dig p 2:Int):=by rw [show (p:Int) / 16=((p / 16:Nat):Int) by omega,and15 _ (by omega)];unfold dig;simp
 have h1:bits .and .i64 ((p:Int) / 256) 15=(dig p 1:Int):=by rw [show (p:Int) / 256=((p / 256:Nat):Int) by omega,and15 _ (by omega)];unfold dig;simp
 have h0:bits .and .i64 ((p:Int) / 4096) 15=(dig p 0:Int):=by rw [show (p:Int) / 4096=((p / 4096:Nat):Int) by omega,and15 _ (by omega)];unfold dig;simp
 rcases (show l=0∨l=1∨l=2∨l=3 by omega) with rfl | rfl | rfl | rfl
 · go_enter Tryz.func179,Tryz.ntmps179
   go_wp2_with fail
   go_ret
   exact ⟨by first | rfl | exact congrArg (fun z=>Ending.returned (.int .i64 z)) h0,rfl⟩
 · go_enter Tryz.func179,Tryz.ntmps179
   go_wp2_with fail
   go_ret
   exact ⟨by first | rfl | exact congrArg (fun z=>Ending.returned (.int .i64 z)) h1,rfl⟩
 · go_enter Tryz.func179,Tryz.ntmps179
   go_wp2_with fail
   go_ret
   exact ⟨by first | rfl | exact congrArg (fun z=>Ending.returned (.int .i64 z)) h2,rfl⟩
 · go_enter Tryz.func179,Tryz.ntmps179
   go_wp2_with fail
   go_ret
   exact ⟨by first | rfl | exact congrArg (fun z=>Ending.returned (.int .i64 z)) h3,rfl⟩
theorem rdright_any (n:Int) (w:World):Calls Tryz.prog 178 #[.int .i64 n] w fun e w'=>e=.returned (.bool (decide (0≤n)&&decide (n < 65536)))∧w=w':=by
 by_cases h0:0≤n
 · have d0:decide (0≤n)=true:=decide_eq_true h0
   rw [d0,Bool.true_and]
   go_enter Tryz.func178,Tryz.ntmps178
   go_wp2_with fail
   go_ret
   exact ⟨rfl,rfl⟩
 · have d0:decide (0≤n)=false:=decide_eq_false h0
   rw [d0,Bool.false_and]
   go_enter Tryz.func178,Tryz.ntmps178
   go_wp2_with fail
   go_ret
   exact ⟨rfl,rfl⟩
end
end Go.Proofs.YtkfoeonggmlebaaGreatDoor
