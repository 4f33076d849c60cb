/-
  Contracts of the program's functions, and plain facts, towards the laws of millpondtop. No condition beyond those that each theorem bears.
-/
import Derived.Test.YtkfoeonggmlebaaGreatDoorQ43
import Derived.Test.YtkfoeonggmlebaaGreatDoorQAA
set_option maxRecDepth 100000
set_option maxHeartbeats 4000000
namespace Go.Proofs.YtkfoeonggmlebaaGreatDoor
section
open Go.RowKit Go.Shelf Go.ChangeShapes Go.WideShapes
open Ent (Ent)
open Go.Proofs.YtkfoeonggmlebaaGreatDoor.Reg
attribute [local go_sem] Oper.semAt_some
variable {w0 w:World} {F0:Nat→Prop} {A B C P:Part} {ls ps L:List Part} {K:VK} {v:VmM} {N:Nat} {c:CoM} {CKK:CK} {cb b:Nat} {o:Opn} {a:Ans} {kv:Value}
theorem res_rg3 {fn:Func} {p q t:Tmp} (h:fn.results=#[.tmp t,.cell p 131,.tmp q]) {tmps:Array Value} {w:World} {g:Nat} {x:Rg} {n m:Value} (hp:tmps.getD p undef=.pointer (some ⟨g,0,none⟩)) (hq:tmps.getD q undef=n) (ht:tmps.getD t undef=m) (hb:Blk w g (ecRg x).toArray 131) :
 (results fn tmps).run Tryz.prog w=.ok (.tuple #[m,.agg (ecRg x).toArray,n]) w:=by
 have hp':tmps[p]?.getD undef=.pointer (some ⟨g,0,none⟩):=by simpa using hp
 have hq':tmps[q]?.getD undef=n:=by simpa using hq
 have ht':tmps[t]?.getD undef=m:=by simpa using ht
 obtain ⟨x0,x1,x2,x3,x4,x5⟩:=rg_load hb
 have hl:(loadVar 131 ⟨g,0,none⟩).run Tryz.prog w=.ok (.agg (ecRg x).toArray) w:=by
  unfold loadVar ecRg
  simp [Tryz.isAgg131 ,go_sem,x0,x1,x2,x3,x4,x5]
 simp [results,h,hp',hq',ht',asAddr,hl]
theorem Blk.drew' {w:World} {b:Nat} {cs:Array Value} {T:TypeId} (h:Blk w b cs T):Blk w.drew b cs T:=h.keep (Mod.refl (fun _=>False) w).drew (fun x=>x)
theorem vm_where {i:Nat} {g:Int} {s:SpM} (hp:v.procs[i]?=some (g,some s)) (hb:K.sbs[i]?=some b) (st:Step w0 F0 (VL K v++CL cb K.vb b o a kv++ls) w) :
 Calls Tryz.prog 65 #[.pointer (some ⟨cb,0,none⟩)] w fun e w'=>e=.returned (.tuple #[.int .i64 (o.b / 16),.agg (ecRg ((findR s.regs (o.b / 16)).getD Rg.zero)).toArray,.bool ((findR s.regs (o.b / 16)).isSome&&decide (0≤o.b))])∧Mod (fun _=>False) w w':=by
 have hm1:=Mod.alloc' (fun _=>False) w (.cells (ecRg Rg.zero).toArray 131)
 have hb1:=Blk.new w (ecRg Rg.zero).toArray 131
 have hwr:=sp_where (o.b / 16) (Step.pullAt 3 i (st.still hm1) rfl (spL_get hb hp))
 have hc:=clAtI 4 (st.still hm1) rfl
 have c2:=hc.c2
 have c6:=hc.c6
 obtain ⟨R,hR⟩:∃ R,R=findR s.regs (o.b / 16):=⟨_,rfl⟩
 obtain ⟨x,hx⟩:∃ x,x=R.getD Rg.zero:=⟨_,rfl⟩
 rw [←hR,←hx] at hwr ⊢
 obtain ⟨f,hf⟩:∃ f,f=R.isSome:=⟨_,rfl⟩
 rw [←hf] at hwr ⊢
 obtain ⟨r,hr⟩:∃ r,r=w.heap.size:=⟨_,rfl⟩
 rw [←hr] at hb1
 unfold ecRg Rg.zero at hm1 hb1 c2 c6 hwr
 simp only at hm1 hb1 c2 c6 hwr
 obtain ⟨wa,hwa⟩:∃ wa,wa=w.alloc (.cells #[.int .i64 0,.int .i64 0,.int .i64 0,.int .i64 0,.int .i64 0,.bool false] 131):=⟨_,rfl⟩
 rw [←hwa] at hm1 hb1 c2 c6 hwr
 have HLT:=ζh (lt_of_cell (clAtI 4 st rfl).c2)
 have HWR:=ζh hwr
 have HB1:=ζh hb1
 have HM1:=ζh hm1
 have HR:=ζh hr
 have HWA:=ζh hwa
 clear st hc hR hx hf hr hwa hwr hb1 hm1 hp hb
 go_enter Tryz.func65,Tryz.ntmps65
 go_upto_region 1 with fail
 rw [←HWA.out,←HR.out]
 go_wp2_with fail
 refine HWR.out.mono ?_
 rintro e w1 ⟨rfl,hm1⟩
 have HMA:=ζh (HM1.out.trans hm1)
 have hmb:=Mod.alloc' (fun _=>False) w1 (.cells #[.int .i64 x.a,.int .i64 x.b,.int .i64 x.k,.int .i64 x.f,.int .i64 x.i,.bool x.wr] 131)
 have hz:=(HB1.out.keep hm1 (fun x=>x)).keep hmb (fun x=>x)
 have k2:=(hm1.trans hmb).keeps c2 (fun x=>x)
 have hy:Blk (w1.alloc (.cells #[.int .i64 x.a,.int .i64 x.b,.int .i64 x.k,.int .i64 x.f,.int .i64 x.i,.bool x.wr] 131)) w1.heap.size (ecRg x).toArray 131:=Blk.new w1 (ecRg x).toArray 131
 go_upto_region 3 with fail
 obtain ⟨w2,hw2⟩:∃ w2,w2=w1.alloc (.cells #[.int .i64 x.a,.int .i64 x.b,.int .i64 x.k,.int .i64 x.f,.int .i64 x.i,.bool x.wr] 131):=⟨_,rfl⟩
 obtain ⟨g2,hg2⟩:∃ g2,g2=w1.heap.size:=⟨_,rfl⟩
 rw [←hw2] at hmb hz k2 hy ⊢
 rw [←hg2] at hy ⊢
 have HMC:=ζh (HMA.out.trans hmb)
 obtain ⟨y0,y1,y2,y3,y4,y5⟩:=rg_load hy
 obtain ⟨z0,z1,z2,z3,z4,z5⟩:w2.cell? ⟨r,0,none⟩=some (.int .i64 0)∧w2.cell? ⟨r,1,none⟩=some (.int .i64 0)∧w2.cell? ⟨r,2,none⟩=some (.int .i64 0)∧w2.cell? ⟨r,3,none⟩=some (.int .i64 0)∧w2.cell? ⟨r,4,none⟩=some (.int .i64 0)∧w2.cell? ⟨r,5,none⟩=some (.bool false):=⟨hz.cell 0,hz.cell 1,hz.cell 2,hz.cell 3,hz.cell 4,hz.cell 5⟩
 have f0:=hz.frozen 0
 have f1:=(hz.set 0 (.int .i64 x.a)).frozen 1
 have f2:=((hz.set 0 (.int .i64 x.a)).set 1 (.int .i64 x.b)).frozen 2
 have f3:=(((hz.set 0 (.int .i64 x.a)).set 1 (.int .i64 x.b)).set 2 (.int .i64 x.k)).frozen 3
 have f4:=((((hz.set 0 (.int .i64 x.a)).set 1 (.int .i64 x.b)).set 2 (.int .i64 x.k)).set 3 (.int .i64 x.f)).frozen 4
 have f5:=(((((hz.set 0 (.int .i64 x.a)).set 1 (.int .i64 x.b)).set 2 (.int .i64 x.k)).set 3 (.int .i64 x.f)).set 4 (.int .i64 x.i)).frozen 5
 have HS:=ζh (((((((hz.set 0 (.int .i64 x.a)).set 1 (.int .i64 x.b)).set 2 (.int .i64 x.k)).set 3 (.int .i64 x.f)).set 4 (.int .i64 x.i)).set 5 (.bool x.wr)))
 have hm6:Mod (fun i=>i=r) w2 _:=((((((mod_setCell w2 r 0 (.int .i64 x.a)).trans (mod_setCell (w2.setCell ⟨r,0,none⟩ (.int .i64 x.a)) r 1 (.int .i64 x.b))).trans (mod_setCell ((w2.setCell ⟨r,0,none⟩ (.int .i64 x.a)).setCell ⟨r,1,none⟩ (.int .i64 x.b)) r 2 (.int .i64 x.k))).trans (mod_setCell (((w2.setCell ⟨r,0,none⟩ (.int .i64 x.a)).setCell ⟨r,1,none⟩ (.int .i64 x.b)).setCell ⟨r,2,none⟩ (.int .i64 x.k)) r 3 (.int .i64 x.f))).trans (mod_setCell ((((w2.setCell ⟨r,0,none⟩ (.int .i64 x.a)).setCell ⟨r,1,none⟩ (.int .i64 x.b)).setCell ⟨r,2,none⟩ (.int .i64 x.k)).setCell ⟨r,3,none⟩ (.int .i64 x.f)) r 4 (.int .i64 x.i))).trans (mod_setCell (((((w2.setCell ⟨r,0,none⟩ (.int .i64 x.a)).setCell ⟨r,1,none⟩ (.int .i64 x.b)).setCell ⟨r,2,none⟩ (.int .i64 x.k)).setCell ⟨r,3,none⟩ (.int .i64 x.f)).setCell ⟨r,4,none⟩ (.int .i64 x.i)) r 5 (.bool x.wr)))
 have hne:cb≠r:=by have:=HLT.out;have:=HR.out;omega
 have k6:=hm6.drew.keeps k2 hne
 have HM6:=ζh (HMC.out.trans' hm6.drew (fun i hi e=>by have:=HR.out;omega))
 clear c2 c6 hm1 hmb hz hy hw2 hg2 HWR hm6 hne
 cases f
 all_goals
  go_region
  go_wp2_with fail
  refine bodyPost_ret (res_rg3 (x:=x) rfl rfl rfl rfl HS.out.drew') rfl ?_
  exact ⟨rfl,HM6.out⟩
end

section
open Go.RowKit Go.Shelf Go.ChangeShapes Go.WideShapes
open Ent (Ent)
open Go.Proofs.YtkfoeonggmlebaaGreatDoor.Reg
attribute [local go_sem] Oper.semAt_some
variable {w0 w:World} {F0:Nat→Prop} {A B C P:Part} {ls ps L:List Part} {K:VK} {v:VmM} {N:Nat} {c:CoM} {CKK:CK} {cb b:Nat} {o:Opn} {a:Ans} {kv:Value}
theorem get_byte (id x:Int) (st:Step w0 F0 (coreP CKK c::ls) w):0≤(c.get id x).1.1∧(c.get id x).1.1 < 256:=by
 obtain ⟨F1,⟨g,h,_⟩,_⟩:=corePart 3 st rfl
 have key:∀ i:Int,0≤Byt.byteAt c.fr.bytes i x∧Byt.byteAt c.fr.bytes i x < 256:=by
  intro i
  unfold Byt.byteAt
  split
  · rename_i hh
    simp only [Bool.and_eq_true,decide_eq_true_eq] at hh
    have hl:i.toNat < c.fr.bytes.length:=by omega
    have ht:=h.good _ (List.getElem_mem hl)
    have hx:x.toNat < (c.fr.bytes[i.toNat]).length:=by rw [ht.1];omega
    rw [List.getD_eq_getElem?_getD,List.getD_eq_getElem?_getD,ζg hl,Option.getD_some,ζg hx,Option.getD_some]
    exact ht.2 _ (List.getElem_mem hx)
  · omega
 unfold CoM.get
 split
 · exact key _
 · show (0:Int)≤0∧(0:Int) < 256;omega
theorem there_keep {i:Nat} {g:Int} {s:SpM} {p:Int} {x:Rg} (hp:v.procs[i]?=some (g,some s)) (hv:VOk N K v) (hN:N≤80000) (h:(v.there i a p x).1.2=true):∃ s',(v.there i a p x).2.2.procs[i]?=some (g,some s'):=by
 unfold VmM.there at h ⊢
 rw [space_nat hp,Option.bind_some] at h ⊢
 cases he:s.entry p with
 | some e =>
   rw [he] at h
   simp only at h ⊢
   exact ⟨s,by rw [(try_keep hv hN h).1,hp]⟩
 | none =>
   rw [he] at h
   simp only at h ⊢
   split at h
   · rename_i h1
     rw [if_pos h1]
     have h2:=(try_keep hv hN h1).1
     rw [hp] at h2
     rw [enter_nat h2]
     exact ⟨_,by simp only;rw [List.getElem?_set_self (ζi.1 h2).1]⟩
   · rename_i h1
     exact absurd h h1
theorem own_keep {i:Nat} {g:Int} {s:SpM} {p:Int} (hp:v.procs[i]?=some (g,some s)) (hv:VOk N K v) (hN:N≤80000) (h:(v.ownP i a p).1.2=true):∃ s',(v.ownP i a p).2.2.procs[i]?=some (g,some s'):=by
 unfold VmM.ownP at h ⊢
 rw [space_nat hp,Option.bind_some] at h ⊢
 have key:∀ x,(v.try_ i a x).1.2=true→∀ id k wr,∃ s',((v.try_ i a x).2.2.enter i p id k wr).procs[i]?=some (g,some s'):=by
  intro x h1 id k wr
  have h2:=(try_keep hv hN h1).1
  rw [hp] at h2
  rw [enter_nat h2]
  exact ⟨_,by simp only;rw [List.getElem?_set_self (ζi.1 h2).1]⟩
 cases he:s.entry p with
 | some e =>
   rw [he] at h
   simp only at h ⊢
   split at h
   · rename_i h1
     rw [if_pos h1]
     exact ⟨s,by rw [(try_keep hv hN h).1,hp]⟩
   · rename_i h1
     rw [if_neg h1]
     split at h
     · rename_i h2
       rw [if_pos h2]
       exact key _ h2 _ _ _
     · rename_i h2
       exact absurd h h2
 | none =>
   rw [he] at h
   simp only at h ⊢
   split at h
   · rename_i h1
     rw [if_pos h1]
     exact key _ h1 _ _ _
   · rename_i h1
     exact absurd h h1
theorem touch_nat {i:Nat} {g:Int} {s:SpM} (hp:v.procs[i]?=some (g,some s)) (p:Int):v.touch i p=⟨v.core,v.procs.set i (g,some (s.touch p))⟩:=by
 unfold VmM.touch
 rw [space_nat hp]
 unfold VmM.setSp
 simp only [Int.toNat_natCast]
 rw [group_nat hp]
set_option maxHeartbeats 8000000 in
theorem vm_load {i:Nat} {g:Int} {s:SpM} (hp:v.procs[i]?=some (g,some s)) (hb:K.sbs[i]?=some b) (ho:o.a=i) (hV:VOk N K v) (hN:N≤80000) (st:Step w0 F0 (VL K v++CL cb K.vb b o Ans.zero kv++ls) w) :
 Calls Tryz.prog 42 #[.pointer (some ⟨cb,0,none⟩)] w fun e w'=>∃ kv',e=.returned (.tuple #[])∧Step w0 F0 (VL K (v.load o.a s o.b).2++CL cb K.vb b o (v.load o.a s o.b).1 kv'++ls) w':=by
 obtain ⟨R,hR⟩:∃ R,R=v.load o.a s o.b:=⟨_,rfl⟩
 have hR':=hR
 unfold VmM.load at hR'
 rw [←hR]
 have hwh:=vm_where hp hb st
 have hpage:=fun x hx=>findR_page (l:=s.regs) (p:=o.b / 16) (x:=x) hx
 obtain ⟨p,hpp⟩:∃ p,p=o.b / 16:=⟨_,rfl⟩
 rw [←hpp] at hwh hR' hpage
 obtain ⟨F,hF⟩:∃ F,F=findR s.regs p:=⟨_,rfl⟩
 rw [←hF] at hwh hR' hpage
 have HRR:=ζh hR'
 have HWH:=ζh hwh
 have HPG:=ζh hpage
 have HP:=ζh hp
 have HB:=ζh hb
 have HO:=ζh ho
 have HV:=ζh hV
 have ST:=ζh st
 have HPE:=ζh hpp
 clear hR hR' hwh hp hb ho hV st hpp hF hpage
 by_cases hbad:F=none∨o.b < 0
 · have hr:R=(.bad 14,v):=by
    rw [HRR.out]
    cases F with
    | none=>rfl
    | some x =>
      rcases hbad with h | h
      · cases h
      · simp only;rw [if_pos h]
   have hbo:(F.isSome&&decide (0≤o.b))=false:=by
    rcases hbad with rfl | h
    · rfl
    · rw [decide_eq_false (by omega),Bool.and_false]
   rw [hbo] at HWH
   obtain ⟨x,hx⟩:∃ x,x=F.getD Rg.zero:=⟨_,rfl⟩
   rw [←hx] at HWH
   have HRX:=ζh hr
   clear hx hbo hr hbad HRR HPG
   unfold ecRg at HWH
   go_enter Tryz.func42,Tryz.ntmps42
   go_wp2_with fail
   refine HWH.out.mono ?_
   rintro e w1 ⟨rfl,hm1⟩
   have hm2:=hm1.alloc (.cells #[.int .i64 x.a,.int .i64 x.b,.int .i64 x.k,.int .i64 x.f,.int .i64 x.i,.bool x.wr] 131)
   have st2:=ST.out.still hm2
   have hc:=clAtI 4 st2 rfl
   have c7:=hc.c7
   have f7:=hc.f7
   have ST3:=ζh (Step.setAt 4 (j:=7) (v:=.int .i64 14) st2 rfl)
   clear hm1 hm2 st2 hc
   go_wp2_with fail
   refine bodyPost_ret (results_none rfl _ _ _) rfl ?_
   rw [HRX.out]
   exact ⟨_,rfl,ST3.out⟩
 · cases F with
   | none=>exact absurd (.inl rfl) hbad
   | some x =>
     have hb0:¬ o.b < 0:=fun h=>hbad (.inr h)
     have hr:=HRR.out
     simp only at hr
     rw [if_neg hb0] at hr
     obtain ⟨p0,p1,pa,pb,hval⟩:=HPG.out x rfl
     rw [show ((some x:Option Rg).isSome&&decide (0≤o.b))=true by rw [decide_eq_true (by omega)];rfl] at HWH
     simp only [Option.getD_some] at HWH
     have HRX:=ζh hr
     have H15:=ζh (show bits .and .i64 o.b 15=o.b%16 from by
      have hpe:=HPE.out
      obtain ⟨k,hk⟩:∃ k:Nat,o.b=k:=⟨o.b.toNat,by omega⟩
      rw [hk,and15 k (by omega)]
      omega)
     have HPP:=ζh (And.intro pa pb)
     have HVAL:=ζh hval
     clear hr hb0 hbad HRR HPG p0 p1 pa pb hval
     unfold ecRg at HWH
     go_enter Tryz.func42,Tryz.ntmps42
     go_wp2_with fail
     refine HWH.out.mono ?_
     rintro e w1 ⟨rfl,hm1⟩
     have st2:=(ST.out.still hm1).localAt 6 (cs:=(ecRg x).toArray) (T:=131)
     have hc:=clAtI 4 (o:=o) (a:=Ans.zero) st2 rfl
     have c6:=hc.c6
     have hen:=sp_entry p (Step.pullAt 3 i st2 rfl (spL_get HB.out HP.out))
     have ST2:=ζh st2
     obtain ⟨wx,hwx⟩:∃ wx,wx=w1.alloc (.cells (ecRg x).toArray 131):=⟨_,rfl⟩
     obtain ⟨gx,hgx⟩:∃ gx,gx=w1.heap.size:=⟨_,rfl⟩
     rw [←hwx] at hen ST2 c6
     rw [←hgx] at ST2
     obtain ⟨en,has,hhas,hEN⟩:∃ (en:Ent) (has:Bool),(s.entry p).isSome=has∧Calls Tryz.prog 66 #[.pointer (some ⟨b,0,none⟩),.int .i64 p] wx fun e w'=>e=.returned (.tuple #[.agg #[.int .i64 en.kind,.int .i64 en.page,.bool en.wr,.bool en.tc],.bool has])∧Mod (fun _=>False) wx w':=by
      cases he:s.entry p with
      | none=>exact ⟨⟨0,0,false,false⟩,false,rfl,by rw [he] at hen;exact hen⟩
      | some en=>exact ⟨en,true,rfl,by rw [he] at hen;exact hen⟩
     have HEN:=ζh hEN
     have HRY:=ζh HRX.out
     rw [hhas] at HRY
     rw [rg_agg] at hwx
     have HWX:=ζh hwx
     have HGX:=ζh hgx
     clear hm1 st2 hc hen hEN hhas HRX hwx hgx
     go_upto_region 3 with fail
     rw [←HWX.out,←HGX.out]
     go_wp2_with fail
     refine HEN.out.mono ?_
     rintro e w2 ⟨rfl,hm2⟩
     have st3:=(ST2.out.still hm2).localAt 6 (cs:=#[.int .i64 en.kind,.int .i64 en.page,.bool en.wr,.bool en.tc]) (T:=137)
     have HY:=ζh (st3.blk (ζm (i:=7) rfl):Blk _ gx (ecRg x).toArray 131)
     have ST3:=ζh st3
     obtain ⟨y0,y1,y2,y3,y4,y5⟩:=rg_load HY.out
     clear hm2 st3 c6 HEN
     by_cases hq:has=false∧x.k=1
     · obtain ⟨rfl,hk1⟩:=hq
       have d0:(x.k==1)=true:=by simp [hk1]
       have hr:=HRY.out
       rw [if_pos ⟨rfl,hk1⟩] at hr
       have HRX:=ζh hr
       have ST4:=ζh ((ST3.out.dropAt 6 rfl).dropAt 6 rfl)
       clear hk1 hr HRY
       go_wp2_with fail
       refine bodyPost_ret (results_none rfl _ _ _) rfl ?_
       rw [HRX.out]
       exact ⟨_,rfl,ST4.out⟩
     · have hr:=HRY.out
       rw [if_neg hq] at hr
       have hth:=vm_there p x HVAL.out HPP.out HP.out HB.out HO.out HV.out hN (a:=Ans.zero) (by show (0:Nat)≤4000;omega) ST3.out
       have hkeep:=there_keep (i:=i) (p:=p) (x:=x) (a:=Ans.zero) HP.out HV.out hN
       rw [←HO.out] at hkeep
       obtain ⟨⟨⟨id,ok⟩,qa,qv⟩,hQ⟩:∃ Q,Q=v.there o.a Ans.zero p x:=⟨_,rfl⟩
       rw [←hQ] at hth hkeep hr
       dsimp only at hth hkeep hr
       rw [rg_agg] at hth
       have HTH:=ζh hth
       have HKEEP:=ζh hkeep
       have HRX:=ζh hr
       have hgo:(has=false∧(x.k==1)=false)∨has=true:=by
        cases has with
        | true=>exact .inr rfl
        | false=>exact .inl ⟨rfl,by rw [beq_eq_false_iff_ne];exact fun h=>hq ⟨rfl,h⟩⟩
       clear hr hQ hth hkeep HRY hq
       cases ok with
       | false =>
         have hr:=HRX.out
         first | rw [if_neg (by decide)] at hr | rw [if_neg (fun h=>h)] at hr
         have HR:=ζh hr
         clear hr HRX
         rcases hgo with ⟨rfl,d0⟩ | rfl
         all_goals
          go_wp2_with fail
          refine HTH.out.mono ?_
          rintro e w4 ⟨kv',rfl,st7⟩
          have ST8:=ζh ((st7.dropAt 6 rfl).dropAt 6 rfl)
          clear st7 HTH y0 y1 y2 y3 y4 y5
          go_wp2_with fail
          refine bodyPost_ret (results_none rfl _ _ _) rfl ?_
          rw [HR.out]
          exact ⟨_,rfl,ST8.out⟩
       | true =>
         have hr:=HRX.out
         rw [if_pos rfl] at hr
         have HR:=ζh hr
         obtain ⟨s',hs'⟩:=HKEEP.out rfl
         have HS':=ζh hs'
         clear hr HRX hs'
         rcases hgo with ⟨rfl,d0⟩ | rfl
         all_goals
          go_wp2_with fail
          refine HTH.out.mono ?_
          rintro e w4 ⟨kv',rfl,st7⟩
          have hc7:=clAtI 4 (o:=o) (a:=qa) st7 rfl
          have x2:=hc7.c2
          have x5:=hc7.c5
          have x0:=(vbAtI 1 st7 rfl).1
          have ST7:=ζh st7
          clear st7 hc7 HTH y0 y1 y2 y3 y4 y5
          have h15:=H15.out
          have hgt:=core_get id (o.b%16) ST7.out.drew
          have hby:=get_byte id (o.b%16) ST7.out
          obtain ⟨⟨⟨bt,be⟩,cg⟩,hcg⟩:∃ r,r=qv.core.get id (o.b%16):=⟨_,rfl⟩
          have hr:=HR.out
          rw [←hcg] at hgt hby hr
          dsimp only at hgt hby hr
          have HGT:=ζh hgt
          have HBY:=ζh hby
          have HR9:=ζh hr
          clear hgt hby hr hcg
          go_wp2_with fail
          go_region_held3 (fun w'=>w'.cell? ⟨cb,2,none⟩=some (.int .i64 o.b)∧w'.cell? ⟨cb,5,none⟩=some (.pointer (some ⟨K.vb,0,none⟩))∧w'.cell? ⟨K.vb,0,none⟩=some (.pointer (some ⟨K.co.b,0,none⟩))) (first | exact ⟨x2,x5,x0⟩ | exact ⟨q2,q5,q0⟩) (first
           | (go_at_call 68;refine HGT.out.mono ?_;rintro e w5 ⟨rfl,st8⟩;have hc8:=clAtI 4 (o:=o) (a:=qa) st8 rfl;have q2:=hc8.c2;have q5:=hc8.c5;have q0:=(vbAtI 1 st8 rfl).1;have q6:=hc8.c6))
          rename_i hHeld
          have htc:=sp_touch p (Step.pullAt 3 i st8 rfl (spL_get HB.out HS'.out))
          have HTC:=ζh htc
          clear hHeld st8 hc8 htc x0 x2 x5 q2 q5 q0 h15
          go_wp2_with fail
          refine HTC.out.mono ?_
          rintro e w6 ⟨⟨y,rfl⟩,st9⟩
          have st10:=vm_setSp (c:=cg) HS'.out HB.out st9
          have hc10:=clAtI 4 (o:=o) (a:=qa) st10 rfl
          have c8:=hc10.c8
          have f8:=hc10.f8
          have hw:IntKind.i64.wrap bt=bt:=wrap_small _ (by have:=HBY.out;omega) (by have:=HBY.out;omega)
          have st11:=Step.setAt 4 (j:=8) (v:=.int .i64 bt) st10 rfl
          have ST11:=ζh ((Step.dropAt 6 st11 rfl).dropAt 6 rfl)
          clear st9 st10 hc10 st11 HTC q6
          go_wp2_with fail
          go_end0
          have hr:=HR9.out
          rw [HO.out,touch_nat (v:=⟨cg,qv.procs⟩) HS'.out] at hr
          rw [hr]
          exact ⟨_,rfl,ST11.out⟩
end

section
open Go.RowKit Go.Shelf Go.ChangeShapes Go.WideShapes
open Ent (Ent)
open Go.Proofs.YtkfoeonggmlebaaGreatDoor.Reg
attribute [local go_sem] Oper.semAt_some
variable {w0 w:World} {F0:Nat→Prop} {A B C P:Part} {ls ps L:List Part} {K:VK} {v:VmM} {N:Nat} {c:CoM} {CKK:CK} {cb b:Nat} {o:Opn} {a:Ans} {kv:Value}
theorem vm_store1 {i r0 r1:Nat} {g:Int} {s:SpM} {p:Int} (hp:v.procs[i]?=some (g,some s)) (hb:K.sbs[i]?=some b) (ho:o.a=i) (hV:VOk N K v) (hN:N≤80000) (hkl:a.killed.length≤4000)
 (st:Step w0 F0 (VL K v++CL cb K.vb b o a kv++(A::blkP r1 #[.int .i64 p] 3::blkP r0 #[.pointer (some ⟨cb,0,none⟩)] 64::ls)) w) :
 Calls Tryz.prog 70 #[.pointer (some ⟨r0,0,none⟩),.pointer (some ⟨r1,0,none⟩)] w fun e w'=>∃ kv',e=.returned (.tuple #[.int .i64 (v.ownP o.a a p).1.1,.bool (v.ownP o.a a p).1.2])∧Step w0 F0 (VL K (v.ownP o.a a p).2.2++CL cb K.vb b o (v.ownP o.a a p).2.1 kv'++(A::blkP r1 #[.int .i64 p] 3::blkP r0 #[.pointer (some ⟨cb,0,none⟩)] 64::ls)) w':=by
 have x0:=(st.blk (ζm (i:=8) rfl):Blk w r0 #[.pointer (some ⟨cb,0,none⟩)] 64).cell 0
 have x1:=(st.blk (ζm (i:=7) rfl):Blk w r1 #[.int .i64 p] 3).cell 0
 simp only [ζa,ζb] at x0 x1
 have H:=vm_own p hp hb ho hV hN hkl st
 obtain ⟨R,hR⟩:∃ R,R=v.ownP o.a a p:=⟨_,rfl⟩
 rw [←hR] at H ⊢
 have HH:=ζh H
 clear st H hR hp hb ho hV
 go_enter Tryz.func70,Tryz.ntmps70
 go_wp2_with fail
 refine HH.out.mono ?_
 rintro e w1 ⟨kv',rfl,st1⟩
 have ST1:=ζh st1
 clear st1 x0 x1 HH
 go_wp2_with fail
 go_ret2
 exact ⟨_,rfl,ST1.out⟩
theorem vm_store2 {i r0 r1 r2:Nat} {g:Int} {s:SpM} {p:Int} {x:Rg} (hx:validR x=true) (hpx:x.a≤p∧p < x.b) (hp:v.procs[i]?=some (g,some s)) (hb:K.sbs[i]?=some b) (ho:o.a=i) (hV:VOk N K v) (hN:N≤80000) (hkl:a.killed.length≤4000)
 (st:Step w0 F0 (VL K v++CL cb K.vb b o a kv++(blkP r2 (ecRg x).toArray 131::blkP r1 #[.int .i64 p] 3::blkP r0 #[.pointer (some ⟨cb,0,none⟩)] 64::ls)) w) :
 Calls Tryz.prog 72 #[.pointer (some ⟨r0,0,none⟩),.pointer (some ⟨r1,0,none⟩),.pointer (some ⟨r2,0,none⟩)] w fun e w'=>∃ kv',e=.returned (.tuple #[.int .i64 (v.there o.a a p x).1.1,.bool (v.there o.a a p x).1.2])∧Step w0 F0 (VL K (v.there o.a a p x).2.2++CL cb K.vb b o (v.there o.a a p x).2.1 kv'++(blkP r2 (ecRg x).toArray 131::blkP r1 #[.int .i64 p] 3::blkP r0 #[.pointer (some ⟨cb,0,none⟩)] 64::ls)) w':=by
 have x0:=(st.blk (ζm (i:=8) rfl):Blk w r0 #[.pointer (some ⟨cb,0,none⟩)] 64).cell 0
 have x1:=(st.blk (ζm (i:=7) rfl):Blk w r1 #[.int .i64 p] 3).cell 0
 simp only [ζa,ζb] at x0 x1
 obtain ⟨y0,y1,y2,y3,y4,y5⟩:=rg_load (st.blk (ζm (i:=6) rfl):Blk w r2 (ecRg x).toArray 131)
 have H:=vm_there p x hx hpx hp hb ho hV hN hkl st
 obtain ⟨R,hR⟩:∃ R,R=v.there o.a a p x:=⟨_,rfl⟩
 rw [←hR] at H ⊢
 rw [rg_agg] at H
 have HH:=ζh H
 clear st H hR hp hb ho hV hx hpx
 go_enter Tryz.func72,Tryz.ntmps72
 go_wp2_with fail
 refine HH.out.mono ?_
 rintro e w1 ⟨kv',rfl,st1⟩
 have ST1:=ζh st1
 clear st1 x0 x1 y0 y1 y2 y3 y4 y5 HH
 go_wp2_with fail
 go_ret2
 exact ⟨_,rfl,ST1.out⟩
def findV (v:VmM) (a:Int) (o:Ans) (p:Int) (x:Rg):(Int × Bool) × Ans × VmM:=if x.k=2 then v.there a o p x else v.ownP a o p
theorem find_keep {i:Nat} {g:Int} {s:SpM} {p:Int} {x:Rg} (hp:v.procs[i]?=some (g,some s)) (hv:VOk N K v) (hN:N≤80000) (h:(findV v i a p x).1.2=true):∃ s',(findV v i a p x).2.2.procs[i]?=some (g,some s'):=by
 unfold findV at h ⊢
 split at h
 · rename_i h1;rw [if_pos h1];exact there_keep hp hv hN h
 · rename_i h1;rw [if_neg h1];exact own_keep hp hv hN h
set_option maxHeartbeats 8000000 in
theorem vm_store {i:Nat} {g:Int} {s:SpM} (hp:v.procs[i]?=some (g,some s)) (hb:K.sbs[i]?=some b) (ho:o.a=i) (hV:VOk N K v) (hN:N≤80000) (st:Step w0 F0 (VL K v++CL cb K.vb b o Ans.zero kv++ls) w) :
 Calls Tryz.prog 43 #[.pointer (some ⟨cb,0,none⟩)] w fun e w'=>∃ kv',e=.returned (.tuple #[])∧Step w0 F0 (VL K (v.store o.a s o.b o.c).2++CL cb K.vb b o (v.store o.a s o.b o.c).1 kv'++ls) w':=by
 obtain ⟨R,hR⟩:∃ R,R=v.store o.a s o.b o.c:=⟨_,rfl⟩
 have hR':=hR
 unfold VmM.store at hR'
 rw [←hR]
 obtain ⟨r,hr⟩:∃ r,r=w.heap.size:=⟨_,rfl⟩
 have st1:Step w0 F0 (VL K v++CL cb K.vb b o Ans.zero kv++(blkP r #[.pointer (some ⟨cb,0,none⟩)] 64::ls)) (w.alloc (.cells #[.pointer (some ⟨cb,0,none⟩)] 64)):=by
  rw [hr];exact st.localAt 6
 obtain ⟨wa,hwa⟩:∃ wa,wa=w.alloc (.cells #[.pointer (some ⟨cb,0,none⟩)] 64):=⟨_,rfl⟩
 rw [←hwa] at st1
 have x0:=(st1.blk (ζm (i:=6) rfl):Blk wa r #[.pointer (some ⟨cb,0,none⟩)] 64).cell 0
 simp only [ζa,ζb] at x0
 have hwh:=vm_where hp hb st1
 have hpage:=fun x hx=>findR_page (l:=s.regs) (p:=o.b / 16) (x:=x) hx
 obtain ⟨p,hpp⟩:∃ p,p=o.b / 16:=⟨_,rfl⟩
 rw [←hpp] at hwh hR' hpage
 obtain ⟨F,hF⟩:∃ F,F=findR s.regs p:=⟨_,rfl⟩
 rw [←hF] at hwh hR' hpage
 obtain ⟨x,hx⟩:∃ x,x=F.getD Rg.zero:=⟨_,rfl⟩
 rw [←hx] at hwh
 obtain ⟨ok,hok⟩:∃ ok,ok=(F.isSome&&decide (0≤o.b)):=⟨_,rfl⟩
 rw [←hok,rg_agg] at hwh
 have HPE:=ζh hpp
 have HRR:=ζh hR'
 have HWH:=ζh hwh
 have HPG:=ζh hpage
 have HP:=ζh hp
 have HB:=ζh hb
 have HO:=ζh ho
 have HV:=ζh hV
 have ST1:=ζh st1
 have HX:=ζh hx
 have HOK:=ζh hok
 have HWA:=ζh hwa
 have HR0:=ζh hr
 clear hR hR' hwh hp hb ho hV st st1 hpp hF hpage hx hok hwa hr
 go_enter Tryz.func43,Tryz.ntmps43
 go_upto_region 1 with fail
 rw [←HWA.out,←HR0.out]
 go_wp2_with fail
 refine HWH.out.mono ?_
 rintro e w1 ⟨rfl,hm1⟩
 obtain ⟨r1,hr1⟩:∃ r1,r1=w1.heap.size:=⟨_,rfl⟩
 have st2:Step w0 F0 (VL K v++CL cb K.vb b o Ans.zero kv++(blkP (r1+1) (ecRg x).toArray 131::blkP r1 #[.int .i64 p] 3::blkP r #[.pointer (some ⟨cb,0,none⟩)] 64::ls)) ((w1.alloc (.cells #[.int .i64 p] 3)).alloc (.cells (ecRg x).toArray 131)):=by
  have h1:=(ST1.out.still hm1).localAt 6 (cs:=#[.int .i64 p]) (T:=3)
  have h2:=Step.localAt 6 (cs:=(ecRg x).toArray) (T:=131) h1
  rw [World.size_alloc,←hr1] at h2
  exact h2
 obtain ⟨w2,hw2⟩:∃ w2,w2=(w1.alloc (.cells #[.int .i64 p] 3)).alloc (.cells (ecRg x).toArray 131):=⟨_,rfl⟩
 rw [←hw2] at st2
 rw [rg_agg] at hw2
 have HW2:=ζh hw2
 have HR1:=ζh hr1
 have ST2:=ζh st2
 clear hm1 hr1 hw2 st2 x0
 go_upto_region 2 with fail
 rw [←HW2.out,←HR1.out]
 have hc2:=clAtI 4 (o:=o) (a:=Ans.zero) ST2.out rfl
 have c3:=hc2.c3
 have c7:=hc2.c7
 have f7:=hc2.f7
 have y0:=(ST2.out.blk (ζm (i:=8) rfl):Blk w2 r #[.pointer (some ⟨cb,0,none⟩)] 64).cell 0
 simp only [ζa,ζb] at y0
 obtain ⟨z0,z1,z2,z3,z4,z5⟩:=rg_load (ST2.out.blk (ζm (i:=6) rfl):Blk w2 (r1+1) (ecRg x).toArray 131)
 clear hc2
 by_cases ha:o.c < 0
 · have hr:=HRR.out
   rw [if_pos (.inl ha)] at hr
   have HRX:=ζh hr
   have d0:decide (o.c < 0)=true:=decide_eq_true ha
   clear hr ha
   have st3:=Step.setAt 4 (j:=7) (v:=.int .i64 1) ST2.out rfl
   have u0:=(st3.blk (ζm (i:=8) rfl):Blk _ r #[.pointer (some ⟨cb,0,none⟩)] 64).cell 0
   have u7:=(clAtI 4 (o:=o) (a:=⟨1,0,[]⟩) st3 rfl).c7
   simp only [ζa,ζb] at u0
   have ST3:=ζh (((Step.dropAt 6 st3 rfl).dropAt 6 rfl).dropAt 6 rfl)
   clear st3
   go_wp2_with fail
   refine bodyPost_ret (results_none rfl _ _ _) rfl ?_
   rw [HRX.out]
   first | exact ⟨_,rfl,ST3.out⟩ | exact ⟨rfl,_,ST3.out⟩
 by_cases hb:255 < o.c
 · have hr:=HRR.out
   rw [if_pos (.inr hb)] at hr
   have HRX:=ζh hr
   have d0:decide (o.c < 0)=false:=decide_eq_false ha
   have d1:decide (255 < o.c)=true:=decide_eq_true hb
   clear hr ha hb
   have st3:=Step.setAt 4 (j:=7) (v:=.int .i64 1) ST2.out rfl
   have u0:=(st3.blk (ζm (i:=8) rfl):Blk _ r #[.pointer (some ⟨cb,0,none⟩)] 64).cell 0
   have u7:=(clAtI 4 (o:=o) (a:=⟨1,0,[]⟩) st3 rfl).c7
   simp only [ζa,ζb] at u0
   have ST3:=ζh (((Step.dropAt 6 st3 rfl).dropAt 6 rfl).dropAt 6 rfl)
   clear st3
   go_wp2_with fail
   refine bodyPost_ret (results_none rfl _ _ _) rfl ?_
   rw [HRX.out]
   first | exact ⟨_,rfl,ST3.out⟩ | exact ⟨rfl,_,ST3.out⟩
 have hr:=HRR.out
 rw [if_neg (by omega)] at hr
 have d0:decide (o.c < 0)=false:=decide_eq_false ha
 have d1:decide (255 < o.c)=false:=decide_eq_false hb
 have HBT:=ζh (show 0≤o.c∧o.c < 256 by omega)
 cases ok with
 | false =>
   have hr2:R=(.bad 14,v):=by
    have hok:=HOK.out
    rw [hr]
    cases F with
    | none=>rfl
    | some y =>
      simp only
      rw [if_pos (Classical.byContradiction fun h=>by rw [Option.isSome_some,Bool.true_and,decide_eq_true (by omega)] at hok;cases hok)]
   have HRX:=ζh hr2
   clear hr hr2 ha hb
   have st3:=Step.setAt 4 (j:=7) (v:=.int .i64 14) ST2.out rfl
   have u0:=(st3.blk (ζm (i:=8) rfl):Blk _ r #[.pointer (some ⟨cb,0,none⟩)] 64).cell 0
   have u7:=(clAtI 4 (o:=o) (a:=⟨14,0,[]⟩) st3 rfl).c7
   simp only [ζa,ζb] at u0
   have ST3:=ζh (((Step.dropAt 6 st3 rfl).dropAt 6 rfl).dropAt 6 rfl)
   clear st3
   go_wp2_with fail
   refine bodyPost_ret (results_none rfl _ _ _) rfl ?_
   rw [HRX.out]
   first | exact ⟨_,rfl,ST3.out⟩ | exact ⟨rfl,_,ST3.out⟩
 | true =>
   have hok:=HOK.out
   cases F with
   | none=>cases hok
   | some y =>
     have hxy:x=y:=HX.out
     subst hxy
     have hob:0≤o.b:=of_decide_eq_true hok.symm
     simp only at hr
     rw [if_neg (by omega)] at hr
     cases hw:x.wr with
     | false =>
       rw [hw,if_pos rfl] at hr
       rw [hw] at z5
       have HRX:=ζh hr
       clear hr ha hb hob hok hw
       have st3:=Step.setAt 4 (j:=7) (v:=.int .i64 15) ST2.out rfl
       have u0:=(st3.blk (ζm (i:=8) rfl):Blk _ r #[.pointer (some ⟨cb,0,none⟩)] 64).cell 0
       have u7:=(clAtI 4 (o:=o) (a:=⟨15,0,[]⟩) st3 rfl).c7
       simp only [ζa,ζb] at u0
       have ST3:=ζh (((Step.dropAt 6 st3 rfl).dropAt 6 rfl).dropAt 6 rfl)
       clear st3
       go_wp2_with fail
       refine bodyPost_ret (results_none rfl _ _ _) rfl ?_
       rw [HRX.out]
       first | exact ⟨_,rfl,ST3.out⟩ | exact ⟨rfl,_,ST3.out⟩
     | true =>
       rw [hw,if_neg (by decide)] at hr
       rw [hw] at z5
       obtain ⟨p0,p1,pa,pb,hval⟩:=HPG.out x rfl
       have HVAL:=ζh hval
       have HPP:=ζh (And.intro pa pb)
       have H15:=ζh (show bits .and .i64 o.b 15=o.b%16 from by
        have hpe:=HPE.out
        obtain ⟨k,hk⟩:∃ k:Nat,o.b=k:=⟨o.b.toNat,by omega⟩
        rw [hk,and15 k (by omega)]
        omega)
       have hwu:IntKind.u8.wrap o.c=o.c:=by
        have:IntKind.u8.wrap o.c=o.c%256:=by first | rfl | simp [IntKind.wrap]
        rw [this];omega
       have HWU:=ζh hwu
       have hkeep:=find_keep (i:=i) (p:=p) (x:=x) (a:=Ans.zero) HP.out HV.out hN
       rw [←HO.out] at hkeep
       have hfi:∀ d:Bool,(x.k==2)=d→findV v o.a Ans.zero p x=bif d then v.there o.a Ans.zero p x else v.ownP o.a Ans.zero p:=by
        intro d hd
        unfold findV
        cases d with
        | true=>rw [if_pos (by simpa using hd)];rfl
        | false=>rw [if_neg (by simpa using hd)];rfl
       have hth:=vm_store2 HVAL.out HPP.out HP.out HB.out HO.out HV.out hN (a:=Ans.zero) (by show (0:Nat)≤4000;omega) ST2.out
       have how:=vm_store1 HP.out HB.out HO.out HV.out hN (a:=Ans.zero) (by show (0:Nat)≤4000;omega) ST2.out
       have hr':R=if (findV v o.a Ans.zero p x).1.2=true then ((findV v o.a Ans.zero p x).2.1,VmM.touch { (findV v o.a Ans.zero p x).2.2 with core:=((findV v o.a Ans.zero p x).2.2.core.put (findV v o.a Ans.zero p x).1.1 (o.b%16) o.c).2 } o.a p) else (findV v o.a Ans.zero p x).2:=hr
       have hfun:∀ d:Bool,(x.k==2)=d→Calls Tryz.prog (bif d then 72 else 70) (bif d then #[.pointer (some ⟨r,0,none⟩),.pointer (some ⟨r1,0,none⟩),.pointer (some ⟨r1+1,0,none⟩)] else #[.pointer (some ⟨r,0,none⟩),.pointer (some ⟨r1,0,none⟩)]) w2 fun e w'=>∃ kv',e=.returned (.tuple #[.int .i64 (findV v o.a Ans.zero p x).1.1,.bool (findV v o.a Ans.zero p x).1.2])∧Step w0 F0 (VL K (findV v o.a Ans.zero p x).2.2++CL cb K.vb b o (findV v o.a Ans.zero p x).2.1 kv'++(blkP (r1+1) (ecRg x).toArray 131::blkP r1 #[.int .i64 p] 3::blkP r #[.pointer (some ⟨cb,0,none⟩)] 64::ls)) w':=by
        intro d hd
        rw [hfi d hd]
        cases d with
        | true=>exact hth
        | false=>exact how
       obtain ⟨⟨⟨id,fd⟩,qa,qv⟩,hQ⟩:∃ Q,Q=findV v o.a Ans.zero p x:=⟨_,rfl⟩
       rw [←hQ] at hfun hkeep hr'
       dsimp only at hfun hkeep hr'
       obtain ⟨d,hd⟩:∃ d,(x.k==2)=d:=⟨_,rfl⟩
       have hfd:=hfun d hd
       have HFD:=ζh hfd
       have HKEEP:=ζh hkeep
       have HRX:=ζh hr'
       clear hr hr' ha hb hob hok hw p0 p1 pa pb hval hwu hkeep hfi hth how hfun hQ hfd
       cases fd with
       | false =>
         have hr:=HRX.out
         first | rw [if_neg (by decide)] at hr | rw [if_neg (fun h=>h)] at hr
         have HR:=ζh hr
         clear hr HRX
         cases d
         all_goals
          go_wp2_with fail
          refine HFD.out.mono ?_
          rintro e w4 ⟨kv',rfl,st7⟩
          have ST8:=ζh (((st7.dropAt 6 rfl).dropAt 6 rfl).dropAt 6 rfl)
          clear st7 HFD y0 c3 c7 f7 z0 z1 z2 z3 z4 z5
          go_wp2_with fail
          go_end0
          rw [HR.out]
          exact ⟨_,rfl,ST8.out⟩
       | true =>
         have hr:=HRX.out
         rw [if_pos rfl] at hr
         have HR:=ζh hr
         obtain ⟨s',hs'⟩:=HKEEP.out rfl
         have HS':=ζh hs'
         clear hr HRX hs'
         cases d
         all_goals
          go_wp2_with fail
          refine HFD.out.mono ?_
          rintro e w4 ⟨kv',rfl,st7⟩
          have hc7:=clAtI 4 (o:=o) (a:=qa) st7 rfl
          have x2:=hc7.c2
          have x3:=hc7.c3
          have x5:=hc7.c5
          have x6:=hc7.c6
          have x0:=(vbAtI 1 st7 rfl).1
          have xr:=(st7.blk (ζm (i:=8) rfl):Blk w4 r #[.pointer (some ⟨cb,0,none⟩)] 64).cell 0
          have xp:=(st7.blk (ζm (i:=7) rfl):Blk w4 r1 #[.int .i64 p] 3).cell 0
          simp only [ζa,ζb] at xr xp
          have ST7:=ζh st7
          have h15:=H15.out
          have hwu:=HWU.out
          have hpt:=core_put id (o.b%16) o.c HBT.out ST7.out.drew
          obtain ⟨⟨pe,cg⟩,hcg⟩:∃ r,r=qv.core.put id (o.b%16) o.c:=⟨_,rfl⟩
          have hr:=HR.out
          rw [←hcg] at hpt hr
          dsimp only at hpt hr
          have HPT:=ζh hpt
          have HR9:=ζh hr
          clear hpt hr hcg st7 hc7 HFD y0 c3 c7 f7 z0 z1 z2 z3 z4 z5
          go_wp2_with fail
          go_still_tail 20,(by kernel_rfl)
          go_wp2_with fail
          refine HPT.out.mono ?_
          rintro e w5 ⟨rfl,st8⟩
          have hc8:=clAtI 4 (o:=o) (a:=qa) st8 rfl
          have q6:=hc8.c6
          have qr:=(st8.blk (ζm (i:=8) rfl):Blk w5 r #[.pointer (some ⟨cb,0,none⟩)] 64).cell 0
          have qp:=(st8.blk (ζm (i:=7) rfl):Blk w5 r1 #[.int .i64 p] 3).cell 0
          simp only [ζa,ζb] at qr qp
          have htc:=sp_touch p (Step.pullAt 3 i st8.drew rfl (spL_get HB.out HS'.out))
          have HTC:=ζh htc
          clear st8 hc8 htc x0 x2 x3 x5 x6 xr xp h15 hwu HPT
          go_wp2_with fail
          go_still_tail 5,(by kernel_rfl)
          go_wp2_with fail
          refine HTC.out.mono ?_
          rintro e w6 ⟨⟨y,rfl⟩,st9⟩
          have st10:=vm_setSp (c:=cg) HS'.out HB.out st9
          have ST11:=ζh (((Step.dropAt 6 st10 rfl).dropAt 6 rfl).dropAt 6 rfl)
          clear st9 st10 HTC q6 qr qp
          go_wp2_with fail
          go_end0
          have hr:=HR9.out
          rw [HO.out,touch_nat (v:=⟨cg,qv.procs⟩) HS'.out] at hr
          rw [hr]
          exact ⟨_,rfl,ST11.out⟩
end

section
open Go.RowKit Go.Shelf Go.ChangeShapes Go.WideShapes
attribute [local go_sem] Oper.semAt_some
variable {w0 w:World} {F0:Nat→Prop} {A B C P:Part} {ls ps L:List Part} {K:VK} {v:VmM} {N:Nat} {c:CoM} {CKK:CK} {cb b:Nat} {o:Opn} {a:Ans} {kv:Value}
def opV (o:Opn):Value:=.agg #[.int .i64 o.kind,.int .i64 o.a,.int .i64 o.b,.int .i64 o.c,.int .i64 o.d]
def ansV (a:Ans) (kv:Value):Value:=.agg #[.int .i64 a.err,.int .i64 a.n,kv]
abbrev ansZ:Array Value:=#[.int .i64 0,.int .i64 0,.slice none 0 0]
theorem ans_store {w:World} {g:Nat} {cs:Array Value} (h:Blk w g cs 32) (hc:cs.size=3) (x y:Int) (ad:Option Addr) (n k:Nat) :
 (storeVar 32 ⟨g,0,none⟩ (.agg #[.int .i64 x,.int .i64 y,.slice ad n k])).run Tryz.prog w=.ok () (w.setRow g #[.int .i64 x,.int .i64 y,.slice ad n k])∧Blk (w.setRow g #[.int .i64 x,.int .i64 y,.slice ad n k]) g #[.int .i64 x,.int .i64 y,.slice ad n k] 32∧Mod (fun b=>b=g) w (w.setRow g #[.int .i64 x,.int .i64 y,.slice ad n k]) :=
 ⟨run_storeVar_row w g 32 32 cs #[.int .i64 x,.int .i64 y,.slice ad n k] h (by kernel_rfl) hc (by simp [Value.oneCell']),Byt.Blk.setRow h,Byt.mod_setRow _ _ _⟩
theorem res_ans {fn:Func} {p:Tmp} (h:fn.results=#[.cell p 32 ]) {tmps:Array Value} {w:World} {g:Nat} {x y z:Value} (hp:tmps.getD p undef=.pointer (some ⟨g,0,none⟩)) (hb:Blk w g #[x,y,z] 32) :
 (results fn tmps).run Tryz.prog w=.ok (.agg #[x,y,z]) w:=by
 have hp':tmps[p]?.getD undef=.pointer (some ⟨g,0,none⟩):=by simpa using hp
 have x0:w.cell? ⟨g,0,none⟩=some x:=hb.cell 0
 have x1:w.cell? ⟨g,1,none⟩=some y:=hb.cell 1
 have x2:w.cell? ⟨g,2,none⟩=some z:=hb.cell 2
 have hl:(loadVar 32 ⟨g,0,none⟩).run Tryz.prog w=.ok (.agg #[x,y,z]) w:=by
  unfold loadVar
  simp [Tryz.isAgg32 ,go_sem,x0,x1,x2]
 simp [results,h,hp',asAddr,hl]
theorem Step.appAt (j:Nat) (st:Step w0 F0 (P::ps) w) (hj:ps[j]?=some (sepP L)):Step w0 F0 (ps.set j (sepP (L++[P]))) w:=by
 obtain ⟨F,⟨F1,F2,h1,h2,h3,h4⟩,hg,hF⟩:=st.sep
 refine ⟨st.mod,st.tab,F,?_,hg,hF⟩
 obtain ⟨F3,F4,g1,g2,g3,g4⟩:=h2.unset j hj
 have hs1:Sep [P] w F1:=⟨F1,fun _=>False,h1,fun _ x=>x,fun _ _ x=>x,fun x=>by simp⟩
 have hs2:=Sep.app (show Sep L w F3 from g1) hs1 (fun x hx h=>h3 x h ((g4 x).2 (.inl hx)))
 have hlt:j < ps.length:=(ζi.1 hj).1
 have ht:Sep (sepP (L++[P])::ps.set j nilP) w F:=by
  refine ⟨_,F4,hs2,g2,fun x hx hc=>?_,fun x=>?_⟩
  · rcases hx with h | h
    · exact g3 x h hc
    · exact h3 x h ((g4 x).2 (.inr hc))
  · have e:=h4 x
    have e':=g4 x
    grind
 have:=ht.settle j (by rw [List.getElem?_set_self hlt])
 rwa [List.set_set] at this
theorem spL_app {bs:List Nat} {l:List (Int × Option SpM)} (h:bs.length=l.length) (sb:Nat) (g:Int) (s:SpM):spL (bs++[sb]) (l++[(g,some s)])=spL bs l++[spaceP sb s]:=by
 unfold spL;rw [List.zipWith_append h];rfl
theorem prC_app {bs:List Nat} {l:List (Int × Option SpM)} (h:bs.length=l.length) (sb:Nat) (g:Int) (s:SpM):prC (bs++[sb]) (l++[(g,some s)])=prC bs l++[.int .i64 g,.pointer (some ⟨sb,0,none⟩)]:=by
 unfold prC;rw [List.zipWith_append h,List.flatten_append];rfl
theorem info_proc2:(Tryz.prog.info? 68).map (fun i=>(i.zero,i.size,i.bytes))=some (some (.agg #[.int .i64 0,.pointer none]),2,16):=by kernel_rfl
theorem vm_add {sb:Nat} {s:SpM} (g:Int) (hk:K.sbs.length=v.procs.length) (hfew:v.procs.length≤64) (st:Step w0 F0 (VL K v++(spaceP sb s::ls)) w) :
 Calls Tryz.prog 54 #[.pointer (some ⟨K.vb,0,none⟩),.int .i64 g,.pointer (some ⟨sb,0,none⟩)] w fun e w'=>∃ pv',e=.returned (ansV (v.add g s).1 (.slice none 0 0))∧Step w0 F0 (VL { K with pv:=pv',sbs:=K.sbs++[sb] } (v.add g s).2++ls) w':=by
 have h1:=st.localAt 5 (cs:=ansZ) (T:=32)
 have hat:=vbAtI 1 h1 rfl
 obtain ⟨wa,hwa⟩:∃ wa,wa=w.alloc (.cells ansZ 32):=⟨_,rfl⟩
 obtain ⟨r,hr⟩:∃ r,r=w.heap.size:=⟨_,rfl⟩
 rw [←hwa,←hr] at h1
 rw [←hwa] at hat
 obtain ⟨c0,c1,f1⟩:=hat
 have hrow:=rowAtI 2 h1 rfl
 obtain ⟨pa,pc,hpv⟩:=ownsRow_form hrow
 obtain ⟨n,hn⟩:∃ n,n=v.procs.length:=⟨_,rfl⟩
 rw [hpv,←hn] at c1 hrow
 have h1x:Step w0 F0 ([coreP K.co v.core,blkP K.vb #[.pointer (some ⟨K.co.b,0,none⟩),K.pv] 55,rowP 68 2 K.pv v.procs.length (prC K.sbs v.procs),sepP (spL K.sbs v.procs),spaceP sb s,blkP r ansZ 32 ]++ls) wa:=h1
 rw [hpv,←hn] at h1x
 have HROW:=ζh hrow
 have HN:=ζh hn
 have HPV:=ζh hpv
 have ST1:=ζh h1x
 have HWA:=ζh hwa
 have HR:=ζh hr
 have HK:=ζh hk
 have hn64:n≤64:=by omega
 clear st h1 h1x hpv hn hwa hr hrow hk hfew
 go_enter Tryz.func54,Tryz.ntmps54
 go_upto_region 1 with fail
 rw [←HWA.out,←HR.out]
 go_upto_region 2 with (at_builtin;go_loud (refine wpList_app rfl _ _ 53 rfl 0 68 _ 2 16 Tryz.underlying53 info_proc2 rfl (by decide) (by decide) (.slice pa n pc) n (prC K.sbs v.procs) rfl (HROW.out.alloc _) ⟨wa.heap.size,0,none⟩ 1 [.int .i64 g,.pointer (some ⟨sb,0,none⟩)] rfl rfl (World.news_of_block (cs:=#[.int .i64 g,.pointer (some ⟨sb,0,none⟩)]) (t:=68) (fr:=(0,0)) (heap_alloc_new wa _)) (by simp [Value.oneCell']) (by omega) (Nat.zero_le _) ?_;intro g1 cap1 w9 o9 m9 hg9 hlt9;have st9:=ST1.out.growAt 2 (v:=.slice pa n pc) rfl o9 m9 hg9;have hv9:=vbAtI 1 st9 rfl;have q1:=hv9.2.1;have p1:=hv9.2.2;have st10:=Step.setAt 1 (j:=1) (v:=.slice (some ⟨g1,0,none⟩) (n+1) cap1) st9 rfl;have ST10:=ζh st10;clear st9 hv9 st10 o9 m9 hg9 hlt9))
 clear q1 p1 c0 c1 f1
 have hv:=vbAtI 1 ST10.out rfl
 have c1:=hv.2.1
 have hw:IntKind.i64.wrap ((n:Int)+1 - 1)=n:=by rw [wrap_small _ (by omega) (by omega)];omega
 have hb:=ST10.out.blk (ζm (i:=5) rfl)
 obtain ⟨hst,hbf,hmf⟩:=ans_store hb rfl 0 n none 0 0
 obtain ⟨F1,⟨h2,rfl⟩,hu⟩:=Step.updAt 5 ST10.out rfl
 have st11:=hu _ (blkP r #[.int .i64 0,.int .i64 n,.slice none 0 0] 32) (fun x=>x=r) hmf ⟨hbf,rfl⟩ (fun x hx=>.inl hx)
 have st12:=Step.appAt 3 (Step.front 4 (Step.dropAt 5 st11 rfl) rfl) rfl
 have ST12:=ζh st12
 have HST:=ζh hst
 have HBF:=ζh hbf
 clear hv hb hst hbf hmf hu h2 st11 st12 ST10
 go_wp2_with (refine Byt.wpList_storeBy rfl 32 _ _ (by rfl) ⟨r,0,none⟩ _ (by rfl) (by rfl) HST.out ?_)
 refine bodyPost_ret (res_ans rfl rfl HBF.out) rfl ?_
 refine ⟨.slice (some ⟨g1,0,none⟩) (n+1) cap1,?_,?_⟩
 · unfold ansV VmM.add;rw [HN.out]
 · have hl:(v.add g s).2.procs=v.procs++[(g,some s)]:=rfl
   show Step w0 F0 ([coreP K.co v.core,blkP K.vb #[.pointer (some ⟨K.co.b,0,none⟩),.slice (some ⟨g1,0,none⟩) (n+1) cap1] 55,rowP 68 2 (.slice (some ⟨g1,0,none⟩) (n+1) cap1) (v.procs++[(g,some s)]).length (prC (K.sbs++[sb]) (v.procs++[(g,some s)])),sepP (spL (K.sbs++[sb]) (v.procs++[(g,some s)]))]++ls) _
   rw [prC_app HK.out,spL_app HK.out,List.length_append,List.length_singleton,←HN.out]
   exact ST12.out
end
end Go.Proofs.YtkfoeonggmlebaaGreatDoor
