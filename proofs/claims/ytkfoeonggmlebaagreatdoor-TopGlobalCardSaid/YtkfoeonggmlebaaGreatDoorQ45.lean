/-
  Contracts of the program's functions, and plain facts, towards the laws of millpondtop. No condition beyond those that each theorem bears.
-/
import Derived.Test.YtkfoeonggmlebaaGreatDoorQ44
import Derived.Test.YtkfoeonggmlebaaGreatDoorQAA
set_option maxRecDepth 100000
set_option maxHeartbeats 4000000
namespace Go.Proofs.YtkfoeonggmlebaaGreatDoor
section
open Go.RowKit Go.Shelf Go.ChangeShapes Go.WideShapes
attribute [local go_sem] Oper.semAt_some
variable {w0 w:World} {F0:Nat→Prop} {A B C P:Part} {ls ps L:List Part} {K:VK} {v:VmM} {N:Nat} {c:CoM} {CKK:CK} {cb b:Nat} {o:Opn} {a:Ans} {kv:Value}
def opC (o:Opn):Array Value:=#[.int .i64 o.kind,.int .i64 o.a,.int .i64 o.b,.int .i64 o.c,.int .i64 o.d]
structure OpAt (w:World) (r:Nat) (o:Opn):Prop where
 c0:w.cell? ⟨r,0,none⟩=some (.int .i64 o.kind)
 c1:w.cell? ⟨r,1,none⟩=some (.int .i64 o.a)
 c2:w.cell? ⟨r,2,none⟩=some (.int .i64 o.b)
 c3:w.cell? ⟨r,3,none⟩=some (.int .i64 o.c)
 c4:w.cell? ⟨r,4,none⟩=some (.int .i64 o.d)
theorem opAtI (i:Nat) {r:Nat} {l:List Part} (st:Step w0 F0 l w) (h:l[i]?=some (blkP r (opC o) 27)):OpAt w r o:=by
 have hb:=st.blk (ζm h)
 exact ⟨hb.cell 0,hb.cell 1,hb.cell 2,hb.cell 3,hb.cell 4⟩
theorem mach_blocks (o:Opn) (st:Step w0 F0 (VL K v++ls) w):∃ (r:Nat) (wb:World),r=w.heap.size∧wb=(w.alloc (.cells (opC o) 27)).alloc (.cells ansZ 32)∧Step w0 F0 (VL K v++(blkP (r+1) ansZ 32::blkP r (opC o) 27::ls)) wb:=by
 refine ⟨_,_,rfl,rfl,?_⟩
 have h1:=st.localAt 4 (cs:=opC o) (T:=27)
 have h2:=Step.localAt 4 (cs:=ansZ) (T:=32) h1
 rw [World.size_alloc] at h2
 exact h2
theorem ans_set {r:Nat} (i:Nat) {cs:Array Value} (st:Step w0 F0 ps w) (hi:ps[i]?=some (blkP r cs 32)) (hc:cs.size=3) (x y:Int) (ad:Option Addr) (n k:Nat) :
 (storeVar 32 ⟨r,0,none⟩ (.agg #[.int .i64 x,.int .i64 y,.slice ad n k])).run Tryz.prog w=.ok () (w.setRow r #[.int .i64 x,.int .i64 y,.slice ad n k])∧Blk (w.setRow r #[.int .i64 x,.int .i64 y,.slice ad n k]) r #[.int .i64 x,.int .i64 y,.slice ad n k] 32 ∧
   Step w0 F0 (ps.set i (blkP r #[.int .i64 x,.int .i64 y,.slice ad n k] 32)) (w.setRow r #[.int .i64 x,.int .i64 y,.slice ad n k]):=by
 have hb:=st.blk (ζm hi)
 obtain ⟨hst,hbf,hmf⟩:=ans_store hb hc x y ad n k
 obtain ⟨F1,⟨h2,rfl⟩,hu⟩:=Step.updAt i st hi
 exact ⟨hst,hbf,hu _ (blkP r #[.int .i64 x,.int .i64 y,.slice ad n k] 32) (fun x=>x=r) hmf ⟨hbf,rfl⟩ (fun x hx=>.inl hx)⟩
theorem vm_group (st:Step w0 F0 (VL K v++ls) w) :
 Calls Tryz.prog 31 #[.pointer (some ⟨K.vb,0,none⟩),opV o] w fun e w'=>∃ gv uv,e=.returned (ansV ⟨(v.core.addGroup o.a).1.2,max (v.core.addGroup o.a).1.1 0,[]⟩ (.slice none 0 0))∧Step w0 F0 (VL { K with co:={ K.co with gv:=gv,uv:=uv } } { v with core:=(v.core.addGroup o.a).2 }++ls) w':=by
 obtain ⟨r,wb,hr,hwb,st1⟩:=mach_blocks o st
 have v0:=(vbAtI 1 st1 rfl).1
 have hop:=opAtI 5 st1 rfl
 have c1:=hop.c1
 have hag:=core_addGroup o.a st1.drew
 obtain ⟨⟨⟨gg,ge⟩,gc⟩,hq⟩:∃ q,q=v.core.addGroup o.a:=⟨_,rfl⟩
 rw [←hq] at hag ⊢
 dsimp only at hag ⊢
 have HAG:=ζh hag
 have HR:=ζh hr
 have HWB:=ζh hwb
 unfold opC at hwb
 have HWB2:=ζh hwb
 clear st st1 hop hag hq hr hwb
 unfold opV
 go_enter Tryz.func31,Tryz.ntmps31
 go_upto_region 1 with fail
 rw [←HWB2.out,←HR.out]
 go_region_held3 (fun w'=>w'.cell? ⟨K.vb,0,none⟩=some (.pointer (some ⟨K.co.b,0,none⟩))∧w'.cell? ⟨r,1,none⟩=some (.int .i64 o.a)) (first | exact ⟨v0,c1⟩ | exact ⟨q0,q1⟩) (first
  | (go_at_call 49;refine HAG.out.mono ?_;rintro e w1 ⟨rfl,gv,uv,st2⟩;have q0:=(vbAtI 1 st2 rfl).1;have q1:=(opAtI 5 (o:=o) st2 rfl).c1))
 rename_i hHeld
 obtain ⟨hst,hbf,st3⟩:=ans_set 4 st2 rfl rfl ge (max gg 0) none 0 0
 have ST3:=ζh ((Step.dropAt 4 st3 rfl).dropAt 4 rfl)
 have HST:=ζh hst
 have HBF:=ζh hbf
 clear hHeld st2 v0 c1 q0 q1 hst hbf st3 HAG
 go_wp2_with (refine Byt.wpList_storeBy rfl 32 _ _ (by rfl) ⟨r+1,0,none⟩ _ (by rfl) (by rfl) HST.out ?_)
 refine bodyPost_ret (res_ans rfl rfl HBF.out) rfl ?_
 exact ⟨gv,uv,rfl,ST3.out⟩
theorem vm_limit (st:Step w0 F0 (VL K v++ls) w) :
 Calls Tryz.prog 33 #[.pointer (some ⟨K.vb,0,none⟩),opV o] w fun e w'=>e=.returned (ansV (.bad (v.core.limit o.a o.b o.c).1) (.slice none 0 0))∧Step w0 F0 (VL K { v with core:=(v.core.limit o.a o.b o.c).2 }++ls) w':=by
 obtain ⟨r,wb,hr,hwb,st1⟩:=mach_blocks o st
 have v0:=(vbAtI 1 st1 rfl).1
 have hop:=opAtI 5 st1 rfl
 have c1:=hop.c1
 have c2:=hop.c2
 have c3:=hop.c3
 have hli:=core_limit o.a o.b o.c st1.drew
 obtain ⟨⟨le,lc⟩,hq⟩:∃ q,q=v.core.limit o.a o.b o.c:=⟨_,rfl⟩
 rw [←hq] at hli ⊢
 dsimp only at hli ⊢
 have HLI:=ζh hli
 have HR:=ζh hr
 unfold opC at hwb
 have HWB2:=ζh hwb
 clear st st1 hop hli hq hr hwb
 unfold opV
 go_enter Tryz.func33,Tryz.ntmps33
 go_upto_region 1 with fail
 rw [←HWB2.out,←HR.out]
 go_region_held3 (fun w'=>w'.cell? ⟨K.vb,0,none⟩=some (.pointer (some ⟨K.co.b,0,none⟩))∧w'.cell? ⟨r,1,none⟩=some (.int .i64 o.a)∧w'.cell? ⟨r,2,none⟩=some (.int .i64 o.b)∧w'.cell? ⟨r,3,none⟩=some (.int .i64 o.c)) (first | exact ⟨v0,c1,c2,c3⟩ | exact ⟨q0,q1,q2,q3⟩ | exact ⟨t0,t1,t2,t3⟩) (first
  | (go_at_call 53;refine HLI.out.mono ?_;rintro e w1 ⟨rfl,st2⟩;have q0:=(vbAtI 1 st2 rfl).1;have hoq:=opAtI 5 (o:=o) st2 rfl;have q1:=hoq.c1;have q2:=hoq.c2;have q3:=hoq.c3;have hb:=st2.blk (ζm (i:=4) rfl);have z0:=hb.cell 0;have z1:=hb.cell 1;have z2:=hb.cell 2;simp only [ζa,ζb,ζc] at z0 z1 z2;have f0:=hb.frozen 0;have f1:=(hb.set 0 (.int .i64 le)).frozen 1;have f2:=((hb.set 0 (.int .i64 le)).set 1 (.int .i64 0)).frozen 2;have HBF:=ζh (((hb.set 0 (.int .i64 le)).set 1 (.int .i64 0)).set 2 (.slice none 0 0));clear hb hoq;have ST3:=ζh (((st2.setAt 4 (j:=0) (v:=.int .i64 le) rfl).setAt 4 (j:=1) (v:=.int .i64 0) rfl).setAt 4 (j:=2) (v:=.slice none 0 0) rfl);have t0:=(vbAtI 1 ST3.out rfl).1;have hot:=opAtI 5 (o:=o) ST3.out rfl;have t1:=hot.c1;have t2:=hot.c2;have t3:=hot.c3))
 rename_i hHeld
 clear hHeld v0 c1 c2 c3 q0 q1 q2 q3 t0 t1 t2 t3 hot z0 z1 z2 f0 f1 f2 HLI
 have ST4:=ζh ((Step.dropAt 4 ST3.out rfl).dropAt 4 rfl)
 go_wp2_with fail
 refine bodyPost_ret (res_ans rfl rfl HBF.out) rfl ?_
 exact ⟨rfl,ST4.out⟩
end

section
open Go.RowKit Go.Shelf Go.ChangeShapes Go.WideShapes
attribute [local go_sem] Oper.semAt_some
variable {w0 w:World} {F0:Nat→Prop} {A B C P:Part} {ls ps L:List Part} {K:VK} {v:VmM} {N:Nat} {c:CoM} {CKK:CK} {cb b:Nat} {o:Opn} {a:Ans} {kv:Value}
def spawnM (v:VmM) (g:Int):Ans × VmM:=if v.core.live g=false then (.bad 2,v) else if 64≤v.procs.length then (.bad 3,v) else v.add g SpM.new
theorem vm_spawn (hV:VOk N K v) (st:Step w0 F0 (VL K v++ls) w) :
 Calls Tryz.prog 34 #[.pointer (some ⟨K.vb,0,none⟩),opV o] w fun e w'=>∃ pv bs,e=.returned (ansV (spawnM v o.a).1 (.slice none 0 0))∧bs.length=(spawnM v o.a).2.procs.length∧Step w0 F0 (VL { K with pv:=pv,sbs:=bs } (spawnM v o.a).2++ls) w':=by
 obtain ⟨r,wb,hr,hwb,st1⟩:=mach_blocks o st
 obtain ⟨v0,v1,_⟩:=vbAtI 1 st1 rfl
 have c1:=(opAtI 5 st1 rfl).c1
 have hl:=c_live o.a st1.drew
 obtain ⟨pa,pc,hpv⟩:=ownsRow_form (rowAtI 2 st1 rfl)
 obtain ⟨n,hn⟩:∃ n,n=v.procs.length:=⟨_,rfl⟩
 rw [hpv,←hn] at v1
 obtain ⟨R,hR⟩:∃ R,R=spawnM v o.a:=⟨_,rfl⟩
 rw [←hR]
 unfold spawnM at hR
 rw [←hn] at hR
 have HPV:=ζh hpv
 have HN:=ζh hn
 have HRR:=ζh hR
 have HR:=ζh hr
 have HV:=ζh hV
 unfold opC at hwb
 have HWB2:=ζh hwb
 have HL:=ζh hl
 have ST1:=ζh st1
 have hn64:n≤64:=by have:=hV.few;omega
 clear st st1 hl hr hwb hpv hn hR hV
 unfold opV
 go_enter Tryz.func34,Tryz.ntmps34
 go_upto_region 1 with fail
 rw [←HWB2.out,←HR.out]
 cases hlv:v.core.live o.a with
 | false =>
   rw [hlv] at HL HRR
   have hr:=HRR.out
   rw [if_pos rfl] at hr
   have HRX:=ζh hr
   clear hr
   go_region_held3 (fun w'=>w'.cell? ⟨K.vb,0,none⟩=some (.pointer (some ⟨K.co.b,0,none⟩))∧w'.cell? ⟨r,1,none⟩=some (.int .i64 o.a)) (first | exact ⟨v0,c1⟩ | exact ⟨q0,q1⟩) (first
    | (go_at_call 50;refine (core_tree ST1.out.drew).mono ?_;rintro e wt ⟨rfl,rfl⟩)
    | (go_at_call 51;refine HL.out.mono ?_;rintro e wt ⟨rfl,rfl⟩))
   obtain ⟨hst,hbf,st3⟩:=ans_set 4 ST1.out.drew rfl rfl 2 0 none 0 0
   have ST3:=ζh ((Step.dropAt 4 st3 rfl).dropAt 4 rfl)
   have HST:=ζh hst
   have HBF:=ζh hbf
   clear hst hbf st3 v0 v1 c1
   try (rename_i hHeld;clear hHeld)
   go_wp2_with (refine Byt.wpList_storeBy rfl 32 _ _ (by rfl) ⟨r+1,0,none⟩ _ (by rfl) (by rfl) HST.out ?_)
   refine bodyPost_ret (res_ans rfl rfl HBF.out) rfl ?_
   rw [HRX.out]
   exact ⟨K.pv,K.sbs,rfl,HV.out.len,ST3.out⟩
 | true =>
   rw [hlv] at HL HRR
   have hr:=HRR.out
   rw [if_neg (by decide)] at hr
   go_region_held3 (fun w'=>w'.cell? ⟨K.vb,0,none⟩=some (.pointer (some ⟨K.co.b,0,none⟩))∧w'.cell? ⟨r,1,none⟩=some (.int .i64 o.a)) (first | exact ⟨v0,c1⟩ | exact ⟨q0,q1⟩) (first
    | (go_at_call 50;refine (core_tree ST1.out.drew).mono ?_;rintro e wt ⟨rfl,rfl⟩)
    | (go_at_call 51;refine HL.out.mono ?_;rintro e wt ⟨rfl,rfl⟩))
   try (rename_i hHeld;clear hHeld)
   by_cases h64:64≤n
   · have d0:decide (64≤(n:Int))=true:=decide_eq_true (by omega)
     rw [if_pos h64] at hr
     have HRX:=ζh hr
     obtain ⟨hst,hbf,st3⟩:=ans_set 4 ST1.out.drew rfl rfl 3 0 none 0 0
     have ST3:=ζh ((Step.dropAt 4 st3 rfl).dropAt 4 rfl)
     have HST:=ζh hst
     have HBF:=ζh hbf
     clear hst hbf st3 hr h64
     go_wp2_with (refine Byt.wpList_storeBy rfl 32 _ _ (by rfl) ⟨r+1,0,none⟩ _ (by rfl) (by rfl) HST.out ?_)
     refine bodyPost_ret (res_ans rfl rfl HBF.out) rfl ?_
     rw [HRX.out]
     exact ⟨K.pv,K.sbs,rfl,HV.out.len,ST3.out⟩
   · have d0:decide (64≤(n:Int))=false:=decide_eq_false (by omega)
     rw [if_neg h64] at hr
     have HRX:=ζh hr
     clear hr h64
     go_wp2_with fail
     have y1:=(opAtI 5 (o:=o) ST1.out.drew.drew rfl).c1
     go_region_held3 (fun w'=>w'.cell? ⟨r,1,none⟩=some (.int .i64 o.a)) (first | exact y1 | exact q1 | exact t1 | exact u1) (first
      | (go_at_call 55;refine (sp_new _).mono ?_;rintro e w1 ⟨sb,Fs,rfl,hm,hs,hn⟩;have st2:=Step.back 4 (Step.push ST1.out.drew.drew hm hs hn);have ST2:=ζh st2;clear st2 hm hs hn;have q1:=(opAtI 6 (o:=o) ST2.out rfl).c1)
      | (go_at_call 54;refine (vm_add o.a HV.out.len HV.out.few ST2.out).mono ?_;rintro e w2 ⟨pv,rfl,st3⟩;unfold ansV;have t1:=(opAtI 5 (o:=o) st3 rfl).c1;have hb:=st3.blk (ζm (i:=4) rfl);have z0:=hb.cell 0;have z1:=hb.cell 1;have z2:=hb.cell 2;simp only [ζa,ζb,ζc] at z0 z1 z2;have f0:=hb.frozen 0;have f1:=(hb.set 0 (.int .i64 (v.add o.a SpM.new).1.err)).frozen 1;have f2:=((hb.set 0 (.int .i64 (v.add o.a SpM.new).1.err)).set 1 (.int .i64 (v.add o.a SpM.new).1.n)).frozen 2;have HBF:=ζh (((hb.set 0 (.int .i64 (v.add o.a SpM.new).1.err)).set 1 (.int .i64 (v.add o.a SpM.new).1.n)).set 2 (.slice none 0 0));clear hb;have ST3:=ζh (((st3.setAt 4 (j:=0) (v:=.int .i64 (v.add o.a SpM.new).1.err) rfl).setAt 4 (j:=1) (v:=.int .i64 (v.add o.a SpM.new).1.n) rfl).setAt 4 (j:=2) (v:=.slice none 0 0) rfl);have u1:=(opAtI 5 (o:=o) ST3.out rfl).c1))
     rename_i hHeld
     clear hHeld v0 v1 c1 y1 q1 t1 u1 z0 z1 z2 f0 f1 f2 HL
     have ST4:=ζh ((Step.dropAt 4 ST3.out rfl).dropAt 4 rfl)
     go_wp2_with fail
     refine bodyPost_ret (res_ans rfl rfl HBF.out) rfl ?_
     rw [HRX.out]
     refine ⟨pv,K.sbs++[sb],rfl,?_,ST4.out⟩
     have h1:(v.add o.a SpM.new).2.procs=v.procs++[(o.a,some SpM.new)]:=rfl
     rw [h1,List.length_append,List.length_append,HV.out.len]
     rfl
end

section
open Go.RowKit Go.Shelf Go.ChangeShapes Go.WideShapes
attribute [local go_sem] Oper.semAt_some
variable {w0 w:World} {F0:Nat→Prop} {A B C P:Part} {ls ps L:List Part} {K:VK} {v:VmM} {N:Nat} {c:CoM} {CKK:CK} {cb b:Nat} {o:Opn} {a:Ans} {kv:Value}
theorem vm_in (x:Int) (w:World):Calls Tryz.prog 99 #[.int .i64 x] w fun e w'=>e=.returned (.bool (decide (0≤x)&&decide (x≤65536)))∧w=w':=by
 by_cases h0:0≤x
 · have d0:decide (0≤x)=true:=decide_eq_true h0
   rw [d0]
   go_enter Tryz.func99,Tryz.ntmps99
   go_wp2_with fail
   go_ret
   exact ⟨rfl,rfl⟩
 · have d0:decide (0≤x)=false:=decide_eq_false h0
   rw [d0]
   go_enter Tryz.func99,Tryz.ntmps99
   go_wp2_with fail
   go_ret
   exact ⟨rfl,rfl⟩
theorem vm_right (st:Step w0 F0 (VL K v++CL cb K.vb b o a kv++ls) w) :
 Calls Tryz.prog 59 #[.pointer (some ⟨cb,0,none⟩)] w fun e w'=>e=.returned (.bool (VmM.pagesB o.b o.c))∧Step w0 F0 (VL K v++CL cb K.vb b o (if VmM.pagesB o.b o.c=true then a else { a with err:=1 }) kv++ls) w':=by
 have hc:=clAtI 4 st rfl
 have c2:=hc.c2
 have c3:=hc.c3
 have c7:=hc.c7
 have f7:=hc.f7
 unfold VmM.pagesB
 have h2:=vm_in o.b w
 have h3:=vm_in o.c w
 obtain ⟨x,hx⟩:∃ x,x=(decide (0≤o.b)&&decide (o.b≤65536)):=⟨_,rfl⟩
 obtain ⟨y,hy⟩:∃ y,y=(decide (0≤o.c)&&decide (o.c≤65536)):=⟨_,rfl⟩
 rw [←hx] at h2 ⊢
 rw [←hy] at h3 ⊢
 have H2:=ζh h2
 have H3:=ζh h3
 have st2:=Step.setAt 4 (j:=7) (v:=.int .i64 1) st rfl
 have ST:=ζh st
 have ST2:=ζh st2
 clear st hc h2 h3 hx hy st2
 cases x with
 | false =>
   go_enter Tryz.func59,Tryz.ntmps59
   go_wp2_with fail
   refine H2.out.mono ?_
   rintro e w1 ⟨rfl,rfl⟩
   go_wp2_with fail
   go_ret
   exact ⟨rfl,ST2.out⟩
 | true =>
   cases y with
   | false =>
     go_enter Tryz.func59,Tryz.ntmps59
     go_wp2_with fail
     refine H2.out.mono ?_
     rintro e w1 ⟨rfl,rfl⟩
     go_wp2_with fail
     refine H3.out.mono ?_
     rintro e w1 ⟨rfl,rfl⟩
     go_wp2_with fail
     go_ret
     exact ⟨rfl,ST2.out⟩
   | true =>
     go_enter Tryz.func59,Tryz.ntmps59
     go_wp2_with fail
     refine H2.out.mono ?_
     rintro e w1 ⟨rfl,rfl⟩
     go_wp2_with fail
     refine H3.out.mono ?_
     rintro e w1 ⟨rfl,rfl⟩
     go_wp2_with fail
     go_ret
     exact ⟨rfl,ST.out⟩
end

section
open Go.RowKit Go.Shelf Go.ChangeShapes Go.WideShapes
open Ent (Ent)
open Go.Proofs.YtkfoeonggmlebaaGreatDoor.Reg
attribute [local go_sem] Oper.semAt_some
variable {w0 w:World} {F0:Nat→Prop} {A B C P:Part} {ls ps L:List Part} {K:VK} {v:VmM} {N:Nat} {c:CoM} {CKK:CK} {cb b:Nat} {o:Opn} {a:Ans} {kv:Value}
theorem setSp_nat {i:Nat} {g:Int} {s:SpM} (hp:v.procs[i]?=some (g,some s)) (s':Option SpM):v.setSp i s'=⟨v.core,v.procs.set i (g,s')⟩:=by
 unfold VmM.setSp
 simp only [Int.toNat_natCast]
 rw [group_nat hp]
theorem pages_of {x y:Int} (h:VmM.pagesB x y=true):0≤x∧x≤65536∧0≤y∧y≤65536:=by
 unfold VmM.pagesB at h
 simp only [Bool.and_eq_true,decide_eq_true_eq] at h
 exact ⟨h.1.1,h.1.2,h.2.1,h.2.2⟩
theorem vm_mapOwn {i:Nat} {g:Int} {s:SpM} (hp:v.procs[i]?=some (g,some s)) (hb:K.sbs[i]?=some b) (ho:o.a=i) (st:Step w0 F0 (VL K v++CL cb K.vb b o Ans.zero kv++ls) w) :
 Calls Tryz.prog 39 #[.pointer (some ⟨cb,0,none⟩)] w fun e w'=>e=.returned (.tuple #[])∧Step w0 F0 (VL K (if VmM.pagesB o.b o.c=true then v.mapX o.a s ⟨o.c,o.c+o.b,1,0,0,true⟩ else (.bad 1,v)).2++CL cb K.vb b o (if VmM.pagesB o.b o.c=true then v.mapX o.a s ⟨o.c,o.c+o.b,1,0,0,true⟩ else (.bad 1,v)).1 kv++ls) w':=by
 have hr:=vm_right st
 have HR:=ζh hr
 have HP:=ζh hp
 have HB:=ζh hb
 have HO:=ζh ho
 clear st hr hp hb ho
 cases hpg:VmM.pagesB o.b o.c with
 | false =>
   rw [hpg] at HR
   rw [if_neg (by decide)] at HR ⊢
   go_enter Tryz.func39,Tryz.ntmps39
   go_wp2_with fail
   refine HR.out.mono ?_
   rintro e w1 ⟨rfl,st1⟩
   have ST1:=ζh st1
   clear st1 HR
   go_wp2_with fail
   go_end0
   exact ⟨rfl,ST1.out⟩
 | true =>
   rw [hpg] at HR
   rw [if_pos rfl] at HR ⊢
   obtain ⟨p0,p1,p2,p3⟩:=pages_of hpg
   obtain ⟨x,hx⟩:∃ x:Rg,x=⟨o.c,o.c+o.b,1,0,0,true⟩:=⟨_,rfl⟩
   rw [←hx]
   obtain ⟨R,hR⟩:∃ R,R=v.mapX o.a s x:=⟨_,rfl⟩
   rw [←hR]
   unfold VmM.mapX at hR
   rw [HO.out,setSp_nat HP.out] at hR
   obtain ⟨⟨me,ms⟩,hq⟩:∃ q,q=s.map x:=⟨_,rfl⟩
   rw [←hq] at hR
   dsimp only at hR
   have HRR:=ζh hR
   have HX:=ζh hx
   have HQ:=ζh hq
   clear hR hx hq
   go_enter Tryz.func39,Tryz.ntmps39
   go_wp2_with fail
   refine HR.out.mono ?_
   rintro e w1 ⟨rfl,st1⟩
   have hc:=clAtI 4 st1 rfl
   have c2:=hc.c2
   have c3:=hc.c3
   have c6:=hc.c6
   have hw:IntKind.i64.wrap (o.c+o.b)=o.c+o.b:=wrap_small _ (by omega) (by omega)
   have hmp:=sp_map x (Step.pullAt 3 i st1.drew rfl (spL_get HB.out HP.out))
   rw [←HQ.out] at hmp
   dsimp only at hmp
   rw [HX.out,rg_agg] at hmp
   simp only at hmp
   have HM:=ζh hmp
   clear hc hmp HR
   have ST1:=ζh st1
   clear st1
   go_wp2_with fail
   go_region_held3 (fun w'=>w'.cell? ⟨cb,2,none⟩=some (.int .i64 o.b)∧w'.cell? ⟨cb,3,none⟩=some (.int .i64 o.c)∧w'.cell? ⟨cb,6,none⟩=some (.pointer (some ⟨b,0,none⟩))) (first | exact ⟨c2,c3,c6⟩ | exact ⟨q2,q3,q6⟩ | exact ⟨t2,t3,t6⟩) (first
    | (go_at_call 60;with_reducible refine HM.out.mono ?_;rintro e w2 ⟨rfl,st2⟩;have st3:=vm_setSp HP.out HB.out st2;have hq3:=clAtI 4 (o:=o) (a:=Ans.zero) st3 rfl;have q2:=hq3.c2;have q3:=hq3.c3;have q6:=hq3.c6;have q7:=hq3.c7;have f7:=hq3.f7;have ST4:=ζh (Step.setAt 4 (j:=7) (v:=.int .i64 me) st3 rfl);clear st2 st3 hq3;have hq4:=clAtI 4 (o:=o) (a:=.bad me) ST4.out rfl;have t2:=hq4.c2;have t3:=hq4.c3;have t6:=hq4.c6;clear hq4))
   rename_i hHeld
   clear hHeld c2 c3 c6 q2 q3 q6 q7 t2 t3 t6 f7 HM
   go_wp2_with fail
   go_end0
   rw [HRR.out]
   exact ⟨rfl,ST4.out⟩
end
end Go.Proofs.YtkfoeonggmlebaaGreatDoor
